/- Contracts of functions of the given program: printed out of the translation by a program of this session, with texts by hand for what the print does not take. -/
import Derived.Test.YtghkngdcmlhmeaaPQux0
import Derived.Test.YtghkngdcmlhmeaaPQux5
import Derived.Test.YtghkngdcmlhmeaaPQux6
import Derived.Test.YtghkngdcmlhmeaaPQux7
import Derived.Test.YtghkngdcmlhmeaaPQux8
import Derived.Test.YtghkngdcmlhmeaaPQux10
import Derived.Test.YtghkngdcmlhmeaaPQux11
import Derived.Test.YtghkngdcmlhmeaaPQux12
import Derived.Test.YtghkngdcmlhmeaaPQux14
namespace Go.Proofs.Ytghkngdcmlhmeaa.PQu
open Go.RowKit Go.Proofs.YtghkngdcmlhmeaaW.PrintWords Go.Proofs.YtghkngdcmlhmeaaW.PrintLast Go.Proofs.YtghkngdcmlhmeaaW.PrintMore
attribute [local go_sem] max2_int min2_int max_two min_two max_three min_three max_four min_four   -- for this text's walks alone
set_option linter.unusedVariables false
set_option linter.unusedSimpArgs false

/-! ### affidavitlaw20_QueueOrder: function 4 -/
mutual
def affidavitlaw20_QueueOrder.j0 : Nat → List (S25) → List Int → Bool → Int → Int → Int → List Int → Option (Bool)
  | 0, _, _, _, _, _, _, _ => none
  | k + 1, x0, x2, x34, x328000, x328001, x328002, x328003 => if x34 = true then (some true) else ((queue_Put.f x0 x328000 x328001 x328002 x328003).bind fun t330 => ((queue_Sorted.f t330).bind fun t333 => (affidavitlaw20_QueueOrder.l0 k x0 x2 t330 t333 ([] : List (S25)) t330 x328000 x328001 x328002 x328003)))
def affidavitlaw20_QueueOrder.l0 : Nat → List (S25) → List Int → List (S25) → List (S25) → List (S25) → List (S25) → Int → Int → Int → List Int → Option (Bool)
  | 0, _, _, _, _, _, _, _, _, _, _ => none
  | k + 1, x0, x2, x7, x8, x9, x10, x328000, x328001, x328002, x328003 => (queue_First.f x10).bind fun bt336 => (if bt336.2.2.2.2.2 = true then (if (x9.length : Int) > 0 then (if 0 ≤ (wrap64 ((x9.length : Int) - 1)) then (if (wrap64 ((x9.length : Int) - 1)) < (x9.length : Int) then ((queue_Less.f k bt336.1 bt336.2.1 bt336.2.2.1 bt336.2.2.2.1 ((rd_T25 x9 (wrap64 ((x9.length : Int) - 1))).f0) ((rd_T25 x9 (wrap64 ((x9.length : Int) - 1))).f1) ((rd_T25 x9 (wrap64 ((x9.length : Int) - 1))).f2) ((rd_T25 x9 (wrap64 ((x9.length : Int) - 1))).f3)).bind fun t348 => (if t348 = true then (none) else (if (bt336.2.2.2.2.1.length : Int) = (wrap64 ((x10.length : Int) - 1)) then (if x9.length < 2932031007402 then (affidavitlaw20_QueueOrder.l0 k x0 x2 x7 x8 (x9 ++ [(⟨bt336.1, bt336.2.1, bt336.2.2.1, bt336.2.2.2.1⟩ : S25)]) bt336.2.2.2.2.1 x328000 x328001 x328002 x328003) else (none)) else (none)))) else (none)) else (none)) else (if (bt336.2.2.2.2.1.length : Int) = (wrap64 ((x10.length : Int) - 1)) then (if x9.length < 2932031007402 then (affidavitlaw20_QueueOrder.l0 k x0 x2 x7 x8 (x9 ++ [(⟨bt336.1, bt336.2.1, bt336.2.2.1, bt336.2.2.2.1⟩ : S25)]) bt336.2.2.2.2.1 x328000 x328001 x328002 x328003) else (none)) else (none))) else (if (x9.length : Int) = (wrap64 ((x0.length : Int) + 1)) then ((affidavitref20_Same.f k x9 x8).bind fun t355 => (affidavitlaw20_QueueOrder.j2 k x2 x7 x9 (!t355) x328000 x328001 x328002 x328003)) else (none)))
def affidavitlaw20_QueueOrder.j2 : Nat → List Int → List (S25) → List (S25) → Bool → Int → Int → Int → List Int → Option (Bool)
  | 0, _, _, _, _, _, _, _, _ => none
  | k + 1, x2, x7, x9, x86, x328000, x328001, x328002, x328003 => if x86 = true then (none) else (affidavitlaw20_QueueOrder.l1 k x2 x7 x9 false 0 x328000 x328001 x328002 x328003)
def affidavitlaw20_QueueOrder.l1 : Nat → List Int → List (S25) → List (S25) → Bool → Int → Int → Int → Int → List Int → Option (Bool)
  | 0, _, _, _, _, _, _, _, _, _ => none
  | k + 1, x2, x7, x9, x14, x15, x328000, x328001, x328002, x328003 => if x15 < (x9.length : Int) then (if x14 = true then (affidavitlaw20_QueueOrder.l1 k x2 x7 x9 true (wrap64 (x15 + 1)) x328000 x328001 x328002 x328003) else (if 0 ≤ x15 then ((affidavitref20_One.f ((rd_T25 x9 x15).f0) ((rd_T25 x9 x15).f1) ((rd_T25 x9 x15).f2) ((rd_T25 x9 x15).f3) x328000 x328001 x328002 x328003).bind fun t357 => (affidavitlaw20_QueueOrder.l1 k x2 x7 x9 t357 (wrap64 (x15 + 1)) x328000 x328001 x328002 x328003)) else (none))) else (affidavitlaw20_QueueOrder.l2 k x2 x9 x14 ([] : List (S25)) 0 x7 0)
def affidavitlaw20_QueueOrder.l2 : Nat → List Int → List (S25) → Bool → List (S25) → Int → List (S25) → Int → Option (Bool)
  | 0, _, _, _, _, _, _, _ => none
  | k + 1, x2, x9, x14, x16, x17, x18, x19 => if x19 < (x2.length : Int) then (if 0 ≤ x19 then ((queue_Due.f x18 (wrap64 (x17 + (wrap64 (rd x2 x19))))).bind fun bt363 => (affidavitlaw20_QueueOrder.l3 k x2 x9 x14 x16 (wrap64 (x17 + (wrap64 (rd x2 x19)))) x19 bt363.1 bt363.2 0)) else (none)) else (if x14 = true then (if x16.length + x18.length < 2932031007402 then ((affidavitref20_Same.f k (x16 ++ x18) x9).bind fun t361 => (some t361)) else (none)) else (none))
def affidavitlaw20_QueueOrder.l3 : Nat → List Int → List (S25) → Bool → List (S25) → Int → Int → List (S25) → List (S25) → Int → Option (Bool)
  | 0, _, _, _, _, _, _, _, _, _ => none
  | k + 1, x2, x9, x14, x16, x17, x19, x20, x21, x22 => if x22 < (x20.length : Int) then (if 0 ≤ x22 then (if ((rd_T25 x20 x22).f0) > x17 then (none) else (affidavitlaw20_QueueOrder.l3 k x2 x9 x14 x16 x17 x19 x20 x21 (wrap64 (x22 + 1)))) else (none)) else ((queue_Next.f x21).bind fun bt370 => (if bt370.2 = true then (if bt370.1 ≤ x17 then (none) else (if x16.length + x20.length < 2932031007402 then (affidavitlaw20_QueueOrder.l2 k x2 x9 x14 (x16 ++ x20) x17 x21 (wrap64 (x19 + 1))) else (none))) else (if x16.length + x20.length < 2932031007402 then (affidavitlaw20_QueueOrder.l2 k x2 x9 x14 (x16 ++ x20) x17 x21 (wrap64 (x19 + 1))) else (none))))
end
def affidavitlaw20_QueueOrder.f (k : Nat) (l0 : List (S25)) (a1_0 : Int) (a1_1 : Int) (a1_2 : Int) (l1_3 : List Int) (l2 : List Int) : Option (Bool) := (affidavitlaw20_awake.f k).bind fun t328 => (if t328 = true then ((affidavitref20_Short.f k l0).bind fun t329 => (if t329 = true then (affidavitlaw20_QueueOrder.j0 k l0 l2 (decide ((l2.length : Int) > 60)) a1_0 a1_1 a1_2 l1_3) else (affidavitlaw20_QueueOrder.j0 k l0 l2 true a1_0 a1_1 a1_2 l1_3))) else (none))
theorem affidavitlaw20_QueueOrder.mono_l : ∀ k, (∀ y0 y1 y2 y3 y4 y5 y6, LeO (affidavitlaw20_QueueOrder.j0 k y0 y1 y2 y3 y4 y5 y6) (affidavitlaw20_QueueOrder.j0 (k + 1) y0 y1 y2 y3 y4 y5 y6)) ∧ (∀ y0 y1 y2 y3 y4 y5 y6 y7 y8 y9, LeO (affidavitlaw20_QueueOrder.l0 k y0 y1 y2 y3 y4 y5 y6 y7 y8 y9) (affidavitlaw20_QueueOrder.l0 (k + 1) y0 y1 y2 y3 y4 y5 y6 y7 y8 y9)) ∧ (∀ y0 y1 y2 y3 y4 y5 y6 y7, LeO (affidavitlaw20_QueueOrder.j2 k y0 y1 y2 y3 y4 y5 y6 y7) (affidavitlaw20_QueueOrder.j2 (k + 1) y0 y1 y2 y3 y4 y5 y6 y7)) ∧ (∀ y0 y1 y2 y3 y4 y5 y6 y7 y8, LeO (affidavitlaw20_QueueOrder.l1 k y0 y1 y2 y3 y4 y5 y6 y7 y8) (affidavitlaw20_QueueOrder.l1 (k + 1) y0 y1 y2 y3 y4 y5 y6 y7 y8)) ∧ (∀ y0 y1 y2 y3 y4 y5 y6, LeO (affidavitlaw20_QueueOrder.l2 k y0 y1 y2 y3 y4 y5 y6) (affidavitlaw20_QueueOrder.l2 (k + 1) y0 y1 y2 y3 y4 y5 y6)) ∧ (∀ y0 y1 y2 y3 y4 y5 y6 y7 y8, LeO (affidavitlaw20_QueueOrder.l3 k y0 y1 y2 y3 y4 y5 y6 y7 y8) (affidavitlaw20_QueueOrder.l3 (k + 1) y0 y1 y2 y3 y4 y5 y6 y7 y8))
  | 0 => ⟨fun _ _ _ _ _ _ _ r h => by simp [affidavitlaw20_QueueOrder.j0] at h, fun _ _ _ _ _ _ _ _ _ _ r h => by simp [affidavitlaw20_QueueOrder.l0] at h, fun _ _ _ _ _ _ _ _ r h => by simp [affidavitlaw20_QueueOrder.j2] at h, fun _ _ _ _ _ _ _ _ _ r h => by simp [affidavitlaw20_QueueOrder.l1] at h, fun _ _ _ _ _ _ _ r h => by simp [affidavitlaw20_QueueOrder.l2] at h, fun _ _ _ _ _ _ _ _ _ r h => by simp [affidavitlaw20_QueueOrder.l3] at h⟩
  | k + 1 => by
    obtain ⟨ih0, ih1, ih2, ih3, ih4, ih5⟩ := affidavitlaw20_QueueOrder.mono_l k
    refine ⟨?_, ?_, ?_, ?_, ?_, ?_⟩
    · intro y0 y1 y2 y3 y4 y5 y6
      unfold affidavitlaw20_QueueOrder.j0
      repeat' first
      | (with_reducible exact ih0 _ _ _ _ _ _ _)
      | (with_reducible exact ih1 _ _ _ _ _ _ _ _ _ _)
      | (with_reducible exact ih2 _ _ _ _ _ _ _ _)
      | (with_reducible exact ih3 _ _ _ _ _ _ _ _ _)
      | (with_reducible exact ih4 _ _ _ _ _ _ _)
      | (with_reducible exact ih5 _ _ _ _ _ _ _ _ _)
      | (with_reducible exact affidavitlaw20_awake.mono _)
      | (with_reducible exact affidavitref20_Same.mono _ _ _)
      | (with_reducible exact affidavitref20_Short.mono _ _)
      | (with_reducible exact queue_Less.mono _ _ _ _ _ _ _ _ _)
      | (with_reducible exact LeO.refl _)
      | (with_reducible exact LeO.none _)
      | (with_reducible refine LeO.ite ?_ ?_)
      | (with_reducible refine LeO.bind ?_ (fun _ => ?_))
      | exact ih0 _ _ _ _ _ _ _
      | exact ih1 _ _ _ _ _ _ _ _ _ _
      | exact ih2 _ _ _ _ _ _ _ _
      | exact ih3 _ _ _ _ _ _ _ _ _
      | exact ih4 _ _ _ _ _ _ _
      | exact ih5 _ _ _ _ _ _ _ _ _
      | exact affidavitlaw20_awake.mono _
      | exact affidavitref20_Same.mono _ _ _
      | exact affidavitref20_Short.mono _ _
      | exact queue_Less.mono _ _ _ _ _ _ _ _ _
      | exact LeO.none _
      | refine LeO.ite ?_ ?_
      | refine LeO.bind ?_ (fun _ => ?_)
    · intro y0 y1 y2 y3 y4 y5 y6 y7 y8 y9
      unfold affidavitlaw20_QueueOrder.l0
      repeat' first
      | (with_reducible exact ih0 _ _ _ _ _ _ _)
      | (with_reducible exact ih1 _ _ _ _ _ _ _ _ _ _)
      | (with_reducible exact ih2 _ _ _ _ _ _ _ _)
      | (with_reducible exact ih3 _ _ _ _ _ _ _ _ _)
      | (with_reducible exact ih4 _ _ _ _ _ _ _)
      | (with_reducible exact ih5 _ _ _ _ _ _ _ _ _)
      | (with_reducible exact affidavitlaw20_awake.mono _)
      | (with_reducible exact affidavitref20_Same.mono _ _ _)
      | (with_reducible exact affidavitref20_Short.mono _ _)
      | (with_reducible exact queue_Less.mono _ _ _ _ _ _ _ _ _)
      | (with_reducible exact LeO.refl _)
      | (with_reducible exact LeO.none _)
      | (with_reducible refine LeO.ite ?_ ?_)
      | (with_reducible refine LeO.bind ?_ (fun _ => ?_))
      | exact ih0 _ _ _ _ _ _ _
      | exact ih1 _ _ _ _ _ _ _ _ _ _
      | exact ih2 _ _ _ _ _ _ _ _
      | exact ih3 _ _ _ _ _ _ _ _ _
      | exact ih4 _ _ _ _ _ _ _
      | exact ih5 _ _ _ _ _ _ _ _ _
      | exact affidavitlaw20_awake.mono _
      | exact affidavitref20_Same.mono _ _ _
      | exact affidavitref20_Short.mono _ _
      | exact queue_Less.mono _ _ _ _ _ _ _ _ _
      | exact LeO.none _
      | refine LeO.ite ?_ ?_
      | refine LeO.bind ?_ (fun _ => ?_)
    · intro y0 y1 y2 y3 y4 y5 y6 y7
      unfold affidavitlaw20_QueueOrder.j2
      repeat' first
      | (with_reducible exact ih0 _ _ _ _ _ _ _)
      | (with_reducible exact ih1 _ _ _ _ _ _ _ _ _ _)
      | (with_reducible exact ih2 _ _ _ _ _ _ _ _)
      | (with_reducible exact ih3 _ _ _ _ _ _ _ _ _)
      | (with_reducible exact ih4 _ _ _ _ _ _ _)
      | (with_reducible exact ih5 _ _ _ _ _ _ _ _ _)
      | (with_reducible exact affidavitlaw20_awake.mono _)
      | (with_reducible exact affidavitref20_Same.mono _ _ _)
      | (with_reducible exact affidavitref20_Short.mono _ _)
      | (with_reducible exact queue_Less.mono _ _ _ _ _ _ _ _ _)
      | (with_reducible exact LeO.refl _)
      | (with_reducible exact LeO.none _)
      | (with_reducible refine LeO.ite ?_ ?_)
      | (with_reducible refine LeO.bind ?_ (fun _ => ?_))
      | exact ih0 _ _ _ _ _ _ _
      | exact ih1 _ _ _ _ _ _ _ _ _ _
      | exact ih2 _ _ _ _ _ _ _ _
      | exact ih3 _ _ _ _ _ _ _ _ _
      | exact ih4 _ _ _ _ _ _ _
      | exact ih5 _ _ _ _ _ _ _ _ _
      | exact affidavitlaw20_awake.mono _
      | exact affidavitref20_Same.mono _ _ _
      | exact affidavitref20_Short.mono _ _
      | exact queue_Less.mono _ _ _ _ _ _ _ _ _
      | exact LeO.none _
      | refine LeO.ite ?_ ?_
      | refine LeO.bind ?_ (fun _ => ?_)
    · intro y0 y1 y2 y3 y4 y5 y6 y7 y8
      unfold affidavitlaw20_QueueOrder.l1
      repeat' first
      | (with_reducible exact ih0 _ _ _ _ _ _ _)
      | (with_reducible exact ih1 _ _ _ _ _ _ _ _ _ _)
      | (with_reducible exact ih2 _ _ _ _ _ _ _ _)
      | (with_reducible exact ih3 _ _ _ _ _ _ _ _ _)
      | (with_reducible exact ih4 _ _ _ _ _ _ _)
      | (with_reducible exact ih5 _ _ _ _ _ _ _ _ _)
      | (with_reducible exact affidavitlaw20_awake.mono _)
      | (with_reducible exact affidavitref20_Same.mono _ _ _)
      | (with_reducible exact affidavitref20_Short.mono _ _)
      | (with_reducible exact queue_Less.mono _ _ _ _ _ _ _ _ _)
      | (with_reducible exact LeO.refl _)
      | (with_reducible exact LeO.none _)
      | (with_reducible refine LeO.ite ?_ ?_)
      | (with_reducible refine LeO.bind ?_ (fun _ => ?_))
      | exact ih0 _ _ _ _ _ _ _
      | exact ih1 _ _ _ _ _ _ _ _ _ _
      | exact ih2 _ _ _ _ _ _ _ _
      | exact ih3 _ _ _ _ _ _ _ _ _
      | exact ih4 _ _ _ _ _ _ _
      | exact ih5 _ _ _ _ _ _ _ _ _
      | exact affidavitlaw20_awake.mono _
      | exact affidavitref20_Same.mono _ _ _
      | exact affidavitref20_Short.mono _ _
      | exact queue_Less.mono _ _ _ _ _ _ _ _ _
      | exact LeO.none _
      | refine LeO.ite ?_ ?_
      | refine LeO.bind ?_ (fun _ => ?_)
    · intro y0 y1 y2 y3 y4 y5 y6
      unfold affidavitlaw20_QueueOrder.l2
      repeat' first
      | (with_reducible exact ih0 _ _ _ _ _ _ _)
      | (with_reducible exact ih1 _ _ _ _ _ _ _ _ _ _)
      | (with_reducible exact ih2 _ _ _ _ _ _ _ _)
      | (with_reducible exact ih3 _ _ _ _ _ _ _ _ _)
      | (with_reducible exact ih4 _ _ _ _ _ _ _)
      | (with_reducible exact ih5 _ _ _ _ _ _ _ _ _)
      | (with_reducible exact affidavitlaw20_awake.mono _)
      | (with_reducible exact affidavitref20_Same.mono _ _ _)
      | (with_reducible exact affidavitref20_Short.mono _ _)
      | (with_reducible exact queue_Less.mono _ _ _ _ _ _ _ _ _)
      | (with_reducible exact LeO.refl _)
      | (with_reducible exact LeO.none _)
      | (with_reducible refine LeO.ite ?_ ?_)
      | (with_reducible refine LeO.bind ?_ (fun _ => ?_))
      | exact ih0 _ _ _ _ _ _ _
      | exact ih1 _ _ _ _ _ _ _ _ _ _
      | exact ih2 _ _ _ _ _ _ _ _
      | exact ih3 _ _ _ _ _ _ _ _ _
      | exact ih4 _ _ _ _ _ _ _
      | exact ih5 _ _ _ _ _ _ _ _ _
      | exact affidavitlaw20_awake.mono _
      | exact affidavitref20_Same.mono _ _ _
      | exact affidavitref20_Short.mono _ _
      | exact queue_Less.mono _ _ _ _ _ _ _ _ _
      | exact LeO.none _
      | refine LeO.ite ?_ ?_
      | refine LeO.bind ?_ (fun _ => ?_)
    · intro y0 y1 y2 y3 y4 y5 y6 y7 y8
      unfold affidavitlaw20_QueueOrder.l3
      repeat' first
      | (with_reducible exact ih0 _ _ _ _ _ _ _)
      | (with_reducible exact ih1 _ _ _ _ _ _ _ _ _ _)
      | (with_reducible exact ih2 _ _ _ _ _ _ _ _)
      | (with_reducible exact ih3 _ _ _ _ _ _ _ _ _)
      | (with_reducible exact ih4 _ _ _ _ _ _ _)
      | (with_reducible exact ih5 _ _ _ _ _ _ _ _ _)
      | (with_reducible exact affidavitlaw20_awake.mono _)
      | (with_reducible exact affidavitref20_Same.mono _ _ _)
      | (with_reducible exact affidavitref20_Short.mono _ _)
      | (with_reducible exact queue_Less.mono _ _ _ _ _ _ _ _ _)
      | (with_reducible exact LeO.refl _)
      | (with_reducible exact LeO.none _)
      | (with_reducible refine LeO.ite ?_ ?_)
      | (with_reducible refine LeO.bind ?_ (fun _ => ?_))
      | exact ih0 _ _ _ _ _ _ _
      | exact ih1 _ _ _ _ _ _ _ _ _ _
      | exact ih2 _ _ _ _ _ _ _ _
      | exact ih3 _ _ _ _ _ _ _ _ _
      | exact ih4 _ _ _ _ _ _ _
      | exact ih5 _ _ _ _ _ _ _ _ _
      | exact affidavitlaw20_awake.mono _
      | exact affidavitref20_Same.mono _ _ _
      | exact affidavitref20_Short.mono _ _
      | exact queue_Less.mono _ _ _ _ _ _ _ _ _
      | exact LeO.none _
      | refine LeO.ite ?_ ?_
      | refine LeO.bind ?_ (fun _ => ?_)
theorem affidavitlaw20_QueueOrder.mono : ∀ a0 a1 a2 a3 a4 a5 k, LeO (affidavitlaw20_QueueOrder.f k a0 a1 a2 a3 a4 a5) (affidavitlaw20_QueueOrder.f (k + 1) a0 a1 a2 a3 a4 a5) := by
  intro a0 a1 a2 a3 a4 a5 k
  obtain ⟨ih0, ih1, ih2, ih3, ih4, ih5⟩ := affidavitlaw20_QueueOrder.mono_l k
  unfold affidavitlaw20_QueueOrder.f
  repeat' first
      | (with_reducible exact ih0 _ _ _ _ _ _ _)
      | (with_reducible exact ih1 _ _ _ _ _ _ _ _ _ _)
      | (with_reducible exact ih2 _ _ _ _ _ _ _ _)
      | (with_reducible exact ih3 _ _ _ _ _ _ _ _ _)
      | (with_reducible exact ih4 _ _ _ _ _ _ _)
      | (with_reducible exact ih5 _ _ _ _ _ _ _ _ _)
      | (with_reducible exact affidavitlaw20_awake.mono _)
      | (with_reducible exact affidavitref20_Same.mono _ _ _)
      | (with_reducible exact affidavitref20_Short.mono _ _)
      | (with_reducible exact queue_Less.mono _ _ _ _ _ _ _ _ _)
      | (with_reducible exact LeO.refl _)
      | (with_reducible exact LeO.none _)
      | (with_reducible refine LeO.ite ?_ ?_)
      | (with_reducible refine LeO.bind ?_ (fun _ => ?_))
      | exact ih0 _ _ _ _ _ _ _
      | exact ih1 _ _ _ _ _ _ _ _ _ _
      | exact ih2 _ _ _ _ _ _ _ _
      | exact ih3 _ _ _ _ _ _ _ _ _
      | exact ih4 _ _ _ _ _ _ _
      | exact ih5 _ _ _ _ _ _ _ _ _
      | exact affidavitlaw20_awake.mono _
      | exact affidavitref20_Same.mono _ _ _
      | exact affidavitref20_Short.mono _ _
      | exact queue_Less.mono _ _ _ _ _ _ _ _ _
      | exact LeO.none _
      | refine LeO.ite ?_ ?_
      | refine LeO.bind ?_ (fun _ => ?_)
def affidavitlaw20_QueueOrder.T11 : Bool × List (List Nat × List Nat) := (true, [([], []), ([0], [0]), ([1], [1]), ([2], [2]), ([3], [3]), ([3], [3]), ([3], [3]), ([6, 3], [3, 6]), ([7, 3], [3, 7]), ([5, 8, 3], [3, 5, 8]), ([9, 3], [3, 9]), ([4, 10, 3, 3], [3, 4, 10]), ([3, 11], [3, 11]), ([12, 11], [12]), ([13], [13]), ([14, 13], [13, 14]), ([13], [13]), ([16, 13], [13, 16]), ([17, 13], [13, 17]), ([15, 18, 13], [13, 15, 18]), ([13, 19], [13, 19])])
def affidavitlaw20_QueueOrder.B11 : List Nat := [0, 1, 3, 7, 15, 15, 15, 79, 207, 495, 1007, 2047, 4095, 8191, 16383, 32767, 16383, 81919, 212991, 524287, 1048575]
theorem affidavitlaw20_QueueOrder.tab11 : rtab .any (opsOf Try.f4 11) = affidavitlaw20_QueueOrder.T11 := by kernel_rfl
theorem affidavitlaw20_QueueOrder.bits11 : waitsOk affidavitlaw20_QueueOrder.T11.2 affidavitlaw20_QueueOrder.B11 = true := by kernel_rfl
def affidavitlaw20_QueueOrder.T21 : Bool × List (List Nat × List Nat) := (true, [([], []), ([0], [0]), ([1], [1]), ([1], [1]), ([2, 3, 1], [1, 2, 3]), ([4, 1], [1, 4]), ([1], [1]), ([5, 6, 1, 1], [1, 5, 6]), ([1, 7], [1, 7]), ([8, 7, 0, 1, 2, 3, 4, 5, 6, 7, 8], [0, 8])])
def affidavitlaw20_QueueOrder.B21 : List Nat := [0, 1, 3, 3, 15, 31, 3, 127, 255, 511]
theorem affidavitlaw20_QueueOrder.tab21 : rtab .any (opsOf Try.f4 21) = affidavitlaw20_QueueOrder.T21 := by kernel_rfl
theorem affidavitlaw20_QueueOrder.bits21 : waitsOk affidavitlaw20_QueueOrder.T21.2 affidavitlaw20_QueueOrder.B21 = true := by kernel_rfl
set_option maxHeartbeats 8000000 in
set_option maxRecDepth 100000 in
theorem affidavitlaw20_QueueOrder.calls (k : Nat) (A0 : Option Addr) (c0 : Nat) (l0 : List (S25)) (a1_0 : Int) (a1_1 : Int) (a1_2 : Int) (A1_3 : Option Addr) (c1_3 : Nat) (l1_3 : List Int) (A2 : Option Addr) (c2 : Nat) (l2 : List Int) (r : Bool) (w : World) (hr0 : Kd.C k25 w A0 l0.length l0) (hc0 : l0.length ≤ c0) (hr1_3 : Kd.C (Kd.int .u8) w A1_3 l1_3.length l1_3) (hc1_3 : l1_3.length ≤ c1_3) (hr2 : Kd.C (Kd.int .u8) w A2 l2.length l2) (hc2 : l2.length ≤ c2) (h : affidavitlaw20_QueueOrder.f k l0 a1_0 a1_1 a1_2 l1_3 l2 = some r) :
    Calls Try.prog 4 #[.slice A0 l0.length c0, .agg #[.int .i64 a1_0, .int .i64 a1_1, .int .i64 a1_2, .slice A1_3 l1_3.length c1_3], .slice A2 l2.length c2] w fun e w' => e = .returned (.bool r) ∧ Below w.heap.size w w' := by
  have hu25 := Try.underlying25
  have HR0 := Aside0.mk hr0
  have HC0 := Aside0.mk hc0
  clear hr0 hc0
  have HR1_3 := Aside0.mk hr1_3
  have HC1_3 := Aside0.mk hc1_3
  clear hr1_3 hc1_3
  have HR2 := Aside0.mk hr2
  have HC2 := Aside0.mk hc2
  clear hr2 hc2
  have HB := Aside0.mk (Below.refl w.heap.size w)
  have H : ((affidavitlaw20_awake.f k).bind fun t328 => (if t328 = true then ((affidavitref20_Short.f k l0).bind fun t329 => (if t329 = true then (affidavitlaw20_QueueOrder.j0 k l0 l2 (decide ((l2.length : Int) > 60)) a1_0 a1_1 a1_2 l1_3) else (affidavitlaw20_QueueOrder.j0 k l0 l2 true a1_0 a1_1 a1_2 l1_3))) else (none))) = some r := h
  clear h
  replace H := Option.bind_eq_some_iff.mp H
  obtain ⟨t328, A40, H⟩ := H
  replace H : (if t328 = true then ((affidavitref20_Short.f k l0).bind fun t329 => (if t329 = true then (affidavitlaw20_QueueOrder.j0 k l0 l2 (decide ((l2.length : Int) > 60)) a1_0 a1_1 a1_2 l1_3) else (affidavitlaw20_QueueOrder.j0 k l0 l2 true a1_0 a1_1 a1_2 l1_3))) else (none)) = some r := H
  have A4 := Aside0.mk A40
  clear A40
  by_cases c5 : t328 = true
  · subst c5
    have H1 : ((affidavitref20_Short.f k l0).bind fun t329 => (if t329 = true then (affidavitlaw20_QueueOrder.j0 k l0 l2 (decide ((l2.length : Int) > 60)) a1_0 a1_1 a1_2 l1_3) else (affidavitlaw20_QueueOrder.j0 k l0 l2 true a1_0 a1_1 a1_2 l1_3))) = some r := by rw [if_pos rfl] at H; exact H
    clear H
    have H := H1
    clear H1
    have HC6 := Aside0.mk H
    clear H
    go_enter Try.func4, Try.ntmps4
    go_upto_region 3 with (first | ((with_reducible refine gate_dst (N := 4) rfl ?_); (try (refine gate_guard (by rfl) ?_; dsimp only)); refine box_event ?hg (N := 4) ?hd (cs := #[.int .i64 a1_0, .int .i64 a1_1, .int .i64 a1_2, .slice A1_3 l1_3.length c1_3]) (t := 25) ?hr ?_; (case hd => rfl); (case hg => rfl); (case hr => first | (go_simp; done) | (go_simp; rfl)); intro gb327 hg w7 hbox hb; have n0_ := Aside0.mk (below_step (by repeat (first | (with_reducible first | exact HB.out | apply below_alloc | apply pw_below_drewN | apply below_drew1) | exact HB.out)) hb); have n1_ := Aside0.mk (hbox); have n2_ := Aside0.mk ((by rw [hg]; exact (below_size (by repeat (first | (with_reducible first | exact HB.out | apply below_alloc | apply pw_below_drewN | apply below_drew1) | exact HB.out))) : w.heap.size ≤ gb327)); have n3_ := Aside0.mk ((by rw [hg]; exact (below_size (by repeat (first | (with_reducible first | exact HB.out | apply below_alloc | apply pw_below_drewN | apply below_drew1) | exact HB.out))) : w.heap.size ≤ gb327)); clear HB; have HB := n0_; have BK327 := n1_; have GW327 := n2_; have GE327 := n3_; clear n0_ n1_ n2_ n3_; clear hb hbox hg) | ((with_reducible refine gate_callee (f := 8) rfl ?_); refine goesL_ (some 25) rfl rfl Try.func8 (by kernel_rfl) rfl #[] rfl (by (try simp only [List.map_toArray, List.map_cons, List.map_nil]); first | done | rfl | (simp only [List.length_drop, List.length_take]; rfl)) ?_; (with_reducible refine (affidavitlaw20_awake.calls k  true _ A4.out).mono ?_); rintro e w8 ⟨rfl, hb⟩; refine ⟨_, rfl, ?_⟩; have n0_ := Aside0.mk (blk_below (g := gb327) (o := .cells #[.int .i64 a1_0, .int .i64 a1_1, .int .i64 a1_2, .slice A1_3 l1_3.length c1_3] 25 (0, 0)) (by (with_reducible repeat (first | refine blk_drewN ?_ _ | refine blk_drew ?_ | refine blk_alloc ?_ _)); exact BK327.out) hb); have n1_ := Aside0.mk (below_step (by repeat (first | (with_reducible first | exact HB.out | apply below_alloc | apply pw_below_drewN | apply below_drew1 | refine below_set ?_ GE327.out) | exact HB.out)) hb); clear BK327; clear HB; have BK327 := n0_; have HB := n1_; clear n0_ n1_; (try clear hb); (try clear hb2); (try clear hk); (try clear hi)))
    (try simp only [Act.put, List.setIfInBounds_toArray, List.set_cons_zero, List.set_cons_succ])
    go_cut [34] (fun v34 wc => ∃ (kq : Nat) (x34_5 : Bool), v34 = .bool x34_5 ∧ Aside0 (affidavitlaw20_QueueOrder.j0 kq l0 l2 x34_5 a1_0 a1_1 a1_2 l1_3 = some r) ∧ Aside0 (kq ≤ k) ∧ Aside0 (wc.heap[gb327]? = some (.cells #[.int .i64 a1_0, .int .i64 a1_1, .int .i64 a1_2, (.slice A1_3 l1_3.length c1_3)] 25 (0, 0))) ∧ Aside0 (Below w.heap.size w wc))
    case first =>
      have H := HC6.out
      clear HC6
      replace H := Option.bind_eq_some_iff.mp H
      obtain ⟨t329, A90, H⟩ := H
      replace H : (if t329 = true then (affidavitlaw20_QueueOrder.j0 k l0 l2 (decide ((l2.length : Int) > 60)) a1_0 a1_1 a1_2 l1_3) else (affidavitlaw20_QueueOrder.j0 k l0 l2 true a1_0 a1_1 a1_2 l1_3)) = some r := H
      have A9 := Aside0.mk A90
      clear A90
      by_cases c10 : t329 = true
      · subst c10
        have H1 : (affidavitlaw20_QueueOrder.j0 k l0 l2 (decide ((l2.length : Int) > 60)) a1_0 a1_1 a1_2 l1_3) = some r := by rw [if_pos rfl] at H; exact H
        clear H
        have H := H1
        clear H1
        have H' := Aside0.mk H
        clear H
        go_wp2_with (first | ((with_reducible refine gate_callee (f := 9) rfl ?_); refine goesL_ (some 28) rfl rfl Try.func9 (by kernel_rfl) rfl #[.slice A0 l0.length c0] rfl (by (try simp only [List.map_toArray, List.map_cons, List.map_nil]); first | done | rfl | (simp only [List.length_drop, List.length_take]; rfl)) ?_; (with_reducible refine (affidavitref20_Short.calls k _ _ l0 true _ ?side1 ?side2 A9.out).mono ?_); (case side1 => repeat (first | exact (Kd.C_below HR0.out HB.out) | (with_reducible refine Kd.C_alloc ?_ _) | (with_reducible refine Kd.C_drewN ?_ _) | (with_reducible refine Kd.C_drew ?_))); (case side2 => exact HC0.out); rintro e w' ⟨rfl, ⟨nd, rfl⟩⟩; refine ⟨_, rfl, ?_⟩))
        go_meet
        case rel => exact ⟨_, (decide ((l2.length : Int) > 60)), (by first | rfl | (simp; done) | (simp [*]; done)), H', ⟨by first | omega | exact Nat.le_refl _⟩, ⟨by (with_reducible repeat (first | refine blk_drewN ?_ _ | refine blk_drew ?_ | refine blk_alloc ?_ _)); exact BK327.out⟩, ⟨by repeat (first | (with_reducible first | exact HB.out | apply below_alloc | apply pw_below_drewN | apply below_drew1 | refine below_set ?_ GE327.out) | exact HB.out)⟩⟩
      · replace c10 := Bool.eq_false_iff.mpr c10
        subst c10
        have H1 : (affidavitlaw20_QueueOrder.j0 k l0 l2 true a1_0 a1_1 a1_2 l1_3) = some r := by rw [if_neg (show ¬ (false = true) by decide)] at H; exact H
        clear H
        have H := H1
        clear H1
        have H' := Aside0.mk H
        clear H
        go_wp2_with (first | ((with_reducible refine gate_callee (f := 9) rfl ?_); refine goesL_ (some 28) rfl rfl Try.func9 (by kernel_rfl) rfl #[.slice A0 l0.length c0] rfl (by (try simp only [List.map_toArray, List.map_cons, List.map_nil]); first | done | rfl | (simp only [List.length_drop, List.length_take]; rfl)) ?_; (with_reducible refine (affidavitref20_Short.calls k _ _ l0 false _ ?side1 ?side2 A9.out).mono ?_); (case side1 => repeat (first | exact (Kd.C_below HR0.out HB.out) | (with_reducible refine Kd.C_alloc ?_ _) | (with_reducible refine Kd.C_drewN ?_ _) | (with_reducible refine Kd.C_drew ?_))); (case side2 => exact HC0.out); rintro e w' ⟨rfl, ⟨nd, rfl⟩⟩; refine ⟨_, rfl, ?_⟩))
        go_meet
        case rel => exact ⟨_, (true), (by first | rfl | (simp; done) | (simp [*]; done)), H', ⟨by first | omega | exact Nat.le_refl _⟩, ⟨by (with_reducible repeat (first | refine blk_drewN ?_ _ | refine blk_drew ?_ | refine blk_alloc ?_ _)); exact BK327.out⟩, ⟨by repeat (first | (with_reducible first | exact HB.out | apply below_alloc | apply pw_below_drewN | apply below_drew1 | refine below_set ?_ GE327.out) | exact HB.out)⟩⟩
    case rest =>
      clear HC6
      try clear c1
      try clear c2
      try clear p2
      try clear c4
      try clear c5
      try clear c8
      try clear c9
      try clear c10
      obtain ⟨kq, x34_5, rfl, HA, HJ5, BK327, HB⟩ := hcut
      cases kq with
      | zero => exact absurd HA.out (by simp [affidavitlaw20_QueueOrder.j0])
      | succ kj5 =>
        have H := HA.out
        clear HA
        simp only [affidavitlaw20_QueueOrder.j0] at H
        by_cases c11 : x34_5 = true
        · subst c11
          have H1 : (some true) = some r := by rw [if_pos rfl] at H; exact H
          clear H
          have H := H1
          clear H1
          obtain rfl := Option.some.inj H
          go_wp2
          go_ret
          exact ⟨by first | rfl | (simp [errW_none, errW_some] <;> rfl) | (simp [*, errW_none, errW_some] <;> rfl), by repeat (first | (with_reducible first | exact HB.out | apply below_alloc | apply pw_below_drewN | apply below_drew1 | refine below_set ?_ GE327.out) | exact HB.out)⟩
        · replace c11 := Bool.eq_false_iff.mpr c11
          subst c11
          have H1 : ((queue_Put.f l0 a1_0 a1_1 a1_2 l1_3).bind fun t330 => ((queue_Sorted.f t330).bind fun t333 => (affidavitlaw20_QueueOrder.l0 kj5 l0 l2 t330 t333 ([] : List (S25)) t330 a1_0 a1_1 a1_2 l1_3))) = some r := by rw [if_neg (show ¬ (false = true) by decide)] at H; exact H
          clear H
          have H := H1
          clear H1
          replace H := Option.bind_eq_some_iff.mp H
          obtain ⟨t330, A120, H⟩ := H
          replace H : ((queue_Sorted.f t330).bind fun t333 => (affidavitlaw20_QueueOrder.l0 kj5 l0 l2 t330 t333 ([] : List (S25)) t330 a1_0 a1_1 a1_2 l1_3)) = some r := H
          have A12 := Aside0.mk A120
          clear A120
          replace H := Option.bind_eq_some_iff.mp H
          obtain ⟨t333, A130, H⟩ := H
          replace H : (affidavitlaw20_QueueOrder.l0 kj5 l0 l2 t330 t333 ([] : List (S25)) t330 a1_0 a1_1 a1_2 l1_3) = some r := H
          have A13 := Aside0.mk A130
          clear A130
          have H' := Aside0.mk H
          clear H
          have hcz14_0 : wc.cell? ⟨gb327, 0, none⟩ = some (.int .i64 a1_0) := (blk_cell BK327.out 0).trans rfl
          have hcz14_1 : wc.cell? ⟨gb327, 1, none⟩ = some (.int .i64 a1_1) := (blk_cell BK327.out 1).trans rfl
          have hcz14_2 : wc.cell? ⟨gb327, 2, none⟩ = some (.int .i64 a1_2) := (blk_cell BK327.out 2).trans rfl
          have hcz14_3 : wc.cell? ⟨gb327, 3, none⟩ = some (.slice A1_3 l1_3.length c1_3) := (blk_cell BK327.out 3).trans rfl
          have hfz14_0 := blk_frozen BK327.out 0
          have hfz14_1 := blk_frozen BK327.out 1
          have hfz14_2 := blk_frozen BK327.out 2
          have hfz14_3 := blk_frozen BK327.out 3
          go_wp2_with (first | ((with_reducible refine gate_callee (f := 19) rfl ?_); refine goesL_ (some 37) rfl rfl Try.func19 (by kernel_rfl) rfl #[.slice A0 l0.length c0, .agg #[.int .i64 a1_0, .int .i64 a1_1, .int .i64 a1_2, .slice A1_3 l1_3.length c1_3]] rfl (by (try simp only [List.map_toArray, List.map_cons, List.map_nil]); first | done | rfl | (simp only [List.length_drop, List.length_take]; rfl)) ?_; (with_reducible refine (queue_Put.calls _ _ l0 a1_0 a1_1 a1_2 _ _ l1_3 t330 _ ?side1 ?side2 ?side3 ?side4 A12.out).mono ?_); (case side1 => repeat (first | exact (Kd.C_below HR0.out HB.out) | (with_reducible refine Kd.C_alloc ?_ _) | (with_reducible refine Kd.C_drewN ?_ _) | (with_reducible refine Kd.C_drew ?_))); (case side2 => exact HC0.out); (case side3 => repeat (first | exact (Kd.C_below HR1_3.out HB.out) | (with_reducible refine Kd.C_alloc ?_ _) | (with_reducible refine Kd.C_drewN ?_ _) | (with_reducible refine Kd.C_drew ?_))); (case side4 => exact HC1_3.out); rintro e w15 ⟨v331, rfl, ho0, hb⟩; refine ⟨_, rfl, ?_⟩; have n0_ := Aside0.mk (Kd.V_lower (Kd.V_mono (ok' := fun k_ => k_ ≠ gb327) ho0 (fun k_ hk_ => (Kd.freshB (g := gb327) (o := .cells #[.int .i64 a1_0, .int .i64 a1_1, .int .i64 a1_2, .slice A1_3 l1_3.length c1_3] 25 (0, 0)) (by (with_reducible repeat (first | refine blk_drewN ?_ _ | refine blk_drew ?_ | refine blk_alloc ?_ _)); exact BK327.out) k_ hk_))) (below_size (by repeat (first | (with_reducible first | exact HB.out | apply below_alloc | apply pw_below_drewN | apply below_drew1 | refine below_set ?_ GE327.out) | exact HB.out)))); have n1_ := Aside0.mk (blk_below (g := gb327) (o := .cells #[.int .i64 a1_0, .int .i64 a1_1, .int .i64 a1_2, .slice A1_3 l1_3.length c1_3] 25 (0, 0)) (by (with_reducible repeat (first | refine blk_drewN ?_ _ | refine blk_drew ?_ | refine blk_alloc ?_ _)); exact BK327.out) hb); have n2_ := Aside0.mk (below_step (by repeat (first | (with_reducible first | exact HB.out | apply below_alloc | apply pw_below_drewN | apply below_drew1 | refine below_set ?_ GE327.out) | exact HB.out)) hb); clear BK327; clear HB; have HO332 := n0_; have BK327 := n1_; have HB := n2_; clear n0_ n1_ n2_; (try clear hb); (try clear hb2); (try clear hk); (try clear hi); (try clear ho0); obtain ⟨Ao16, co16, eo16⟩ := Kd.V_slice HO332.out; subst eo16) | ((with_reducible refine gate_callee (f := 18) rfl ?_); refine goesL_ (some 39) rfl rfl Try.func18 (by kernel_rfl) rfl #[.slice Ao16 t330.length co16] rfl (by (try simp only [List.map_toArray, List.map_cons, List.map_nil]); first | done | rfl | (simp only [List.length_drop, List.length_take]; rfl)) ?_; (with_reducible refine (queue_Sorted.calls _ _ t330 t333 _ ?side1 ?side2 A13.out).mono ?_); (case side1 => repeat (first | exact (Kd.V_reads' HO332.out).2.2 | (with_reducible refine Kd.C_alloc ?_ _) | (with_reducible refine Kd.C_drewN ?_ _) | (with_reducible refine Kd.C_drew ?_))); (case side2 => exact (Kd.V_reads' HO332.out).2.1); rintro e w17 ⟨v334, rfl, ho0, hb⟩; refine ⟨_, rfl, ?_⟩; have n0_ := Aside0.mk (Kd.V_below (by (with_reducible repeat (first | apply Kd.V_alloc | apply Kd.V_drewN | apply Kd.V_drew)); exact HO332.out) hb); have n1_ := Aside0.mk (Kd.V_lower (Kd.V_mono (ok' := fun k_ => k_ ≠ gb327) ho0 (fun k_ hk_ => (Kd.freshB (g := gb327) (o := .cells #[.int .i64 a1_0, .int .i64 a1_1, .int .i64 a1_2, .slice A1_3 l1_3.length c1_3] 25 (0, 0)) (by (with_reducible repeat (first | refine blk_drewN ?_ _ | refine blk_drew ?_ | refine blk_alloc ?_ _)); exact BK327.out) k_ hk_))) (below_size (by repeat (first | (with_reducible first | exact HB.out | apply below_alloc | apply pw_below_drewN | apply below_drew1 | refine below_set ?_ GE327.out) | exact HB.out)))); have n2_ := Aside0.mk (blk_below (g := gb327) (o := .cells #[.int .i64 a1_0, .int .i64 a1_1, .int .i64 a1_2, .slice A1_3 l1_3.length c1_3] 25 (0, 0)) (by (with_reducible repeat (first | refine blk_drewN ?_ _ | refine blk_drew ?_ | refine blk_alloc ?_ _)); exact BK327.out) hb); have n3_ := Aside0.mk (below_step (by repeat (first | (with_reducible first | exact HB.out | apply below_alloc | apply pw_below_drewN | apply below_drew1 | refine below_set ?_ GE327.out) | exact HB.out)) hb); clear HO332; clear BK327; clear HB; have HO332 := n0_; have HO335 := n1_; have BK327 := n2_; have HB := n3_; clear n0_ n1_ n2_ n3_; (try clear hb); (try clear hb2); (try clear hk); (try clear hi); (try clear ho0)))
          go_loopg [9, 10] kj5 (fun kq v9 v10 w' => ∃ (x9_2 : List (S25)) (x10_2 : List (S25)), Aside0 (affidavitlaw20_QueueOrder.l0 kq l0 l2 t330 t333 x9_2 x10_2 a1_0 a1_1 a1_2 l1_3 = some r) ∧ Aside0 (kq ≤ kj5) ∧ Aside0 (Kd.V k25 25 w' w.heap.size (fun k_ => some k_ ≠ (v9 : Value).ownBlock ∧ k_ ≠ gb327) (.slice Ao16 t330.length co16) t330) ∧ Aside0 (Kd.V k25 25 w' w.heap.size (fun k_ => some k_ ≠ (v9 : Value).ownBlock ∧ k_ ≠ gb327) v334 t333) ∧ Aside0 (Kd.N k25 25 w' w.heap.size (fun k_ => k_ ≠ gb327) v9 x9_2) ∧ Aside0 (Kd.V k25 25 w' w.heap.size (fun k_ => some k_ ≠ (v9 : Value).ownBlock ∧ k_ ≠ gb327) v10 x10_2) ∧ Aside0 (w'.heap[gb327]? = some (.cells #[.int .i64 a1_0, .int .i64 a1_1, .int .i64 a1_2, (.slice A1_3 l1_3.length c1_3)] 25 (0, 0))) ∧ Aside0 (Below w.heap.size w w'))
          case atStart => exact ⟨(([] : List (S25))), (t330), H', ⟨Nat.le_refl _⟩, ⟨by (with_reducible repeat (first | apply Kd.V_alloc | apply Kd.V_drewN | apply Kd.V_drew)); exact Kd.V_mono HO332.out (fun _ hk => ⟨(by simp [Value.ownBlock]), hk⟩)⟩, ⟨by (with_reducible repeat (first | apply Kd.V_alloc | apply Kd.V_drewN | apply Kd.V_drew)); exact Kd.V_mono HO335.out (fun _ hk => ⟨(by simp [Value.ownBlock]), hk⟩)⟩, ⟨by first | exact Kd.S_nil _ _ _ _ _ | exact Kd.N_nil _ _ _ _ _ | exact Kd.V_nil _ _ _ _ _ | exact Kd.Q_nil _ _ _ _ _ | exact Kd.R_nil _ _ _ _ _⟩, ⟨by (with_reducible repeat (first | apply Kd.V_alloc | apply Kd.V_drewN | apply Kd.V_drew)); exact Kd.V_mono HO332.out (fun _ hk => ⟨(by simp [Value.ownBlock]), hk⟩)⟩, ⟨by (with_reducible repeat (first | refine blk_drewN ?_ _ | refine blk_drew ?_ | refine blk_alloc ?_ _)); exact BK327.out⟩, ⟨by repeat (first | (with_reducible first | exact HB.out | apply below_alloc | apply pw_below_drewN | apply below_drew1 | refine below_set ?_ GE327.out) | exact HB.out)⟩⟩
          case round =>
            clear H'
            try clear c1
            try clear c2
            try clear p2
            try clear c4
            try clear c5
            try clear c8
            try clear c9
            try clear c10
            try clear c11
            try clear hcz14_0
            try clear hcz14_1
            try clear hcz14_2
            try clear hcz14_3
            try clear hfz14_0
            try clear hfz14_1
            try clear hfz14_2
            try clear hfz14_3
            try clear p2
            obtain ⟨x9_2, x10_2, HA, HK2, HO_7, HO_8, HO_9, HO_10, BK327, HB⟩ := hrel
            cases gk with
            | zero => exact absurd HA.out (by simp [affidavitlaw20_QueueOrder.l0])
            | succ k2 =>
              have H := HA.out
              clear HA
              simp only [affidavitlaw20_QueueOrder.l0] at H
              replace H := Option.bind_eq_some_iff.mp H
              obtain ⟨⟨t336, t337, t338, t339, t342, t345⟩, A180, H⟩ := H
              replace H : (if t345 = true then (if (x9_2.length : Int) > 0 then (if 0 ≤ (wrap64 ((x9_2.length : Int) - 1)) then (if (wrap64 ((x9_2.length : Int) - 1)) < (x9_2.length : Int) then ((queue_Less.f k2 t336 t337 t338 t339 ((rd_T25 x9_2 (wrap64 ((x9_2.length : Int) - 1))).f0) ((rd_T25 x9_2 (wrap64 ((x9_2.length : Int) - 1))).f1) ((rd_T25 x9_2 (wrap64 ((x9_2.length : Int) - 1))).f2) ((rd_T25 x9_2 (wrap64 ((x9_2.length : Int) - 1))).f3)).bind fun t348 => (if t348 = true then (none) else (if (t342.length : Int) = (wrap64 ((x10_2.length : Int) - 1)) then (if x9_2.length < 2932031007402 then (affidavitlaw20_QueueOrder.l0 k2 l0 l2 t330 t333 (x9_2 ++ [(⟨t336, t337, t338, t339⟩ : S25)]) t342 a1_0 a1_1 a1_2 l1_3) else (none)) else (none)))) else (none)) else (none)) else (if (t342.length : Int) = (wrap64 ((x10_2.length : Int) - 1)) then (if x9_2.length < 2932031007402 then (affidavitlaw20_QueueOrder.l0 k2 l0 l2 t330 t333 (x9_2 ++ [(⟨t336, t337, t338, t339⟩ : S25)]) t342 a1_0 a1_1 a1_2 l1_3) else (none)) else (none))) else (if (x9_2.length : Int) = (wrap64 ((l0.length : Int) + 1)) then ((affidavitref20_Same.f k2 x9_2 t333).bind fun t355 => (affidavitlaw20_QueueOrder.j2 k2 l2 t330 x9_2 (!t355) a1_0 a1_1 a1_2 l1_3)) else (none))) = some r := H
              have A18 := Aside0.mk A180
              clear A180
              by_cases c19 : t345 = true
              · subst c19
                have H1 : (if (x9_2.length : Int) > 0 then (if 0 ≤ (wrap64 ((x9_2.length : Int) - 1)) then (if (wrap64 ((x9_2.length : Int) - 1)) < (x9_2.length : Int) then ((queue_Less.f k2 t336 t337 t338 t339 ((rd_T25 x9_2 (wrap64 ((x9_2.length : Int) - 1))).f0) ((rd_T25 x9_2 (wrap64 ((x9_2.length : Int) - 1))).f1) ((rd_T25 x9_2 (wrap64 ((x9_2.length : Int) - 1))).f2) ((rd_T25 x9_2 (wrap64 ((x9_2.length : Int) - 1))).f3)).bind fun t348 => (if t348 = true then (none) else (if (t342.length : Int) = (wrap64 ((x10_2.length : Int) - 1)) then (if x9_2.length < 2932031007402 then (affidavitlaw20_QueueOrder.l0 k2 l0 l2 t330 t333 (x9_2 ++ [(⟨t336, t337, t338, t339⟩ : S25)]) t342 a1_0 a1_1 a1_2 l1_3) else (none)) else (none)))) else (none)) else (none)) else (if (t342.length : Int) = (wrap64 ((x10_2.length : Int) - 1)) then (if x9_2.length < 2932031007402 then (affidavitlaw20_QueueOrder.l0 k2 l0 l2 t330 t333 (x9_2 ++ [(⟨t336, t337, t338, t339⟩ : S25)]) t342 a1_0 a1_1 a1_2 l1_3) else (none)) else (none))) = some r := by rw [if_pos rfl] at H; exact H
                clear H
                have H := H1
                clear H1
                by_cases c20 : (x9_2.length : Int) > 0
                · rw [if_pos c20] at H
                  have c20b0 : decide (0 < (x9_2.length : Int)) = true := decide_eq_true c20
                  have c20b1 : decide (0 < x9_2.length) = true := decide_eq_true (by omega)
                  clear c20
                  obtain ⟨ji21, hji21⟩ : ∃ j_ : Int, (wrap64 ((x9_2.length : Int) - 1)) = j_ := ⟨_, rfl⟩
                  replace H : (if 0 ≤ (ji21) then (if (ji21) < (x9_2.length : Int) then ((queue_Less.f k2 t336 t337 t338 t339 ((rd_T25 x9_2 (ji21)).f0) ((rd_T25 x9_2 (ji21)).f1) ((rd_T25 x9_2 (ji21)).f2) ((rd_T25 x9_2 (ji21)).f3)).bind fun t348 => (if t348 = true then (none) else (if (t342.length : Int) = (wrap64 ((x10_2.length : Int) - 1)) then (if x9_2.length < 2932031007402 then (affidavitlaw20_QueueOrder.l0 k2 l0 l2 t330 t333 (x9_2 ++ [(⟨t336, t337, t338, t339⟩ : S25)]) t342 a1_0 a1_1 a1_2 l1_3) else (none)) else (none)))) else (none)) else (none)) = some r := by first | (rw [hji21] at H; exact H) | (simp only [hji21] at H ⊢; exact H)
                  (try rw [hji21] at A18)
                  have hji21w : (IntKind.i64.wrap ((x9_2.length : Int) - 1)) = ji21 := (i64_w _).trans hji21
                  by_cases c22 : 0 ≤ (ji21)
                  · rw [if_pos c22] at H
                    have c22b0 : decide (0 ≤ (ji21)) = true := decide_eq_true c22
                    clear c22
                    by_cases c23 : (ji21) < (x9_2.length : Int)
                    · rw [if_pos c23] at H
                      have c23b0 : decide ((ji21) < (x9_2.length : Int)) = true := decide_eq_true c23
                      clear c23
                      replace H := Option.bind_eq_some_iff.mp H
                      obtain ⟨t348, A240, H⟩ := H
                      replace H : (if t348 = true then (none) else (if (t342.length : Int) = (wrap64 ((x10_2.length : Int) - 1)) then (if x9_2.length < 2932031007402 then (affidavitlaw20_QueueOrder.l0 k2 l0 l2 t330 t333 (x9_2 ++ [(⟨t336, t337, t338, t339⟩ : S25)]) t342 a1_0 a1_1 a1_2 l1_3) else (none)) else (none))) = some r := H
                      have A24 := Aside0.mk A240
                      clear A240
                      by_cases c25 : t348 = true
                      · subst c25
                        have H1 : (none) = some r := by rw [if_pos rfl] at H; exact H
                        clear H
                        have H := H1
                        clear H1
                        exact absurd H (by simp)
                      · replace c25 := Bool.eq_false_iff.mpr c25
                        subst c25
                        have H1 : (if (t342.length : Int) = (wrap64 ((x10_2.length : Int) - 1)) then (if x9_2.length < 2932031007402 then (affidavitlaw20_QueueOrder.l0 k2 l0 l2 t330 t333 (x9_2 ++ [(⟨t336, t337, t338, t339⟩ : S25)]) t342 a1_0 a1_1 a1_2 l1_3) else (none)) else (none)) = some r := by rw [if_neg (show ¬ (false = true) by decide)] at H; exact H
                        clear H
                        have H := H1
                        clear H1
                        by_cases c26 : (t342.length : Int) = (wrap64 ((x10_2.length : Int) - 1))
                        · rw [if_pos c26] at H
                          have c26b0 : ((t342.length : Int) == (wrap64 ((x10_2.length : Int) - 1))) = true := beq_iff_eq.mpr c26
                          have c26b1 : ((t342.length : Int) != (wrap64 ((x10_2.length : Int) - 1))) = false := bne_eq_false_iff_eq.mpr c26
                          clear c26
                          by_cases c27 : x9_2.length < 2932031007402
                          · rw [if_pos c27] at H
                            have LMc27 := Aside0.mk c27
                            clear c27
                            obtain ⟨y349, hy349⟩ : ∃ y_ : List (S25), y_ = (x9_2 ++ [(⟨t336, t337, t338, t339⟩ : S25)]) := ⟨_, rfl⟩
                            replace H : (affidavitlaw20_QueueOrder.l0 k2 l0 l2 t330 t333 y349 t342 a1_0 a1_1 a1_2 l1_3) = some r := by first | (rw [hy349]; with_reducible exact H) | (have H2_ := (Option.bind_some _ _).symm.trans H; rw [hy349]; with_reducible exact H2_) | (have H2_ := (Option.bind_some _ _).symm.trans H; with_reducible exact H2_) | with_reducible exact H | (rw [hy349]; exact H) | exact H
                            have Ny349 := Aside0.mk hy349
                            clear hy349
                            have H' := Aside0.mk H
                            clear H
                            obtain ⟨Ao28, co28, eo28⟩ := Kd.V_slice HO_10.out
                            subst eo28
                            try go_wp2_with (first | ((with_reducible refine gate_callee (f := 13) rfl ?_); refine goesL_ (some 43) rfl rfl Try.func13 (by kernel_rfl) rfl #[.slice Ao28 x10_2.length co28] rfl (by (try simp only [List.map_toArray, List.map_cons, List.map_nil]); first | done | rfl | (simp only [List.length_drop, List.length_take]; rfl)) ?_; (with_reducible refine (queue_First.calls _ _ x10_2 t336 t337 t338 t339 t342 true _ ?side1 ?side2 A18.out).mono ?_); (case side1 => repeat (first | exact (Kd.V_reads' HO_10.out).2.2 | (with_reducible refine Kd.C_alloc ?_ _) | (with_reducible refine Kd.C_drewN ?_ _) | (with_reducible refine Kd.C_drew ?_))); (case side2 => exact (Kd.V_reads' HO_10.out).2.1); rintro e w29 ⟨v340, v343, rfl, ho0, ho1, hb⟩; refine ⟨_, rfl, ?_⟩; have n0_ := Aside0.mk (Kd.V_below (by (with_reducible repeat (first | apply Kd.V_alloc | apply Kd.V_drewN | apply Kd.V_drew)); exact HO_7.out) hb); have n1_ := Aside0.mk (Kd.V_below (by (with_reducible repeat (first | apply Kd.V_alloc | apply Kd.V_drewN | apply Kd.V_drew)); exact HO_8.out) hb); have n2_ := Aside0.mk (Kd.N_below (by (with_reducible repeat (first | apply Kd.N_alloc | apply Kd.N_drewN | apply Kd.N_drew)); exact HO_9.out) hb); have n3_ := Aside0.mk (Kd.V_below (by (with_reducible repeat (first | apply Kd.V_alloc | apply Kd.V_drewN | apply Kd.V_drew)); exact HO_10.out) hb); have n4_ := Aside0.mk (Kd.V_lower (Kd.V_mono (ok' := fun k_ => some k_ ≠ (u9 : Value).ownBlock ∧ k_ ≠ gb327) ho0 (fun k_ hk_ => ⟨(Kd.fresh' (Kd.N_lt (by (with_reducible repeat (first | apply Kd.N_alloc | apply Kd.N_drewN | apply Kd.N_drew)); exact HO_9.out)) k_ hk_), (Kd.freshB (g := gb327) (o := .cells #[.int .i64 a1_0, .int .i64 a1_1, .int .i64 a1_2, .slice A1_3 l1_3.length c1_3] 25 (0, 0)) (by (with_reducible repeat (first | refine blk_drewN ?_ _ | refine blk_drew ?_ | refine blk_alloc ?_ _)); exact BK327.out) k_ hk_)⟩)) (below_size (by repeat (first | (with_reducible first | exact HB.out | apply below_alloc | apply pw_below_drewN | apply below_drew1 | refine below_set ?_ GE327.out) | exact HB.out)))); have n5_ := Aside0.mk (Kd.V_lower (Kd.V_mono (ok' := fun k_ => some k_ ≠ (u9 : Value).ownBlock ∧ k_ ≠ gb327) ho1 (fun k_ hk_ => ⟨(Kd.fresh' (Kd.N_lt (by (with_reducible repeat (first | apply Kd.N_alloc | apply Kd.N_drewN | apply Kd.N_drew)); exact HO_9.out)) k_ hk_), (Kd.freshB (g := gb327) (o := .cells #[.int .i64 a1_0, .int .i64 a1_1, .int .i64 a1_2, .slice A1_3 l1_3.length c1_3] 25 (0, 0)) (by (with_reducible repeat (first | refine blk_drewN ?_ _ | refine blk_drew ?_ | refine blk_alloc ?_ _)); exact BK327.out) k_ hk_)⟩)) (below_size (by repeat (first | (with_reducible first | exact HB.out | apply below_alloc | apply pw_below_drewN | apply below_drew1 | refine below_set ?_ GE327.out) | exact HB.out)))); have n6_ := Aside0.mk (blk_below (g := gb327) (o := .cells #[.int .i64 a1_0, .int .i64 a1_1, .int .i64 a1_2, .slice A1_3 l1_3.length c1_3] 25 (0, 0)) (by (with_reducible repeat (first | refine blk_drewN ?_ _ | refine blk_drew ?_ | refine blk_alloc ?_ _)); exact BK327.out) hb); have n7_ := Aside0.mk (below_step (by repeat (first | (with_reducible first | exact HB.out | apply below_alloc | apply pw_below_drewN | apply below_drew1 | refine below_set ?_ GE327.out) | exact HB.out)) hb); clear HO_7; clear HO_8; clear HO_9; clear HO_10; clear BK327; clear HB; have HO_7 := n0_; have HO_8 := n1_; have HO_9 := n2_; have HO_10 := n3_; have HO341 := n4_; have HO344 := n5_; have BK327 := n6_; have HB := n7_; clear n0_ n1_ n2_ n3_ n4_ n5_ n6_ n7_; (try clear hb); (try clear hb2); (try clear hk); (try clear hi); (try clear ho0); (try clear ho1)) | ((with_reducible refine gate_dst (N := 11) rfl ?_); (try (refine gate_guard (by rfl) ?_; dsimp only)); refine box_event ?hg (N := 11) ?hd (cs := #[.int .i64 0, .int .i64 0, .int .i64 0, .slice none 0 0]) (t := 25) ?hr ?_; (case hd => rfl); (case hg => rfl); (case hr => first | (go_simp; done) | (go_simp; rfl)); intro gb346 hg w30 hbox hb; have n0_ := Aside0.mk (Kd.V_below (Kd.V_elderB (by (with_reducible repeat (first | apply Kd.V_alloc | apply Kd.V_drewN | apply Kd.V_drew)); exact HO_7.out) gb346 (Nat.le_of_eq hg.symm)) hb); have n1_ := Aside0.mk (Kd.V_below (Kd.V_elderB (by (with_reducible repeat (first | apply Kd.V_alloc | apply Kd.V_drewN | apply Kd.V_drew)); exact HO_8.out) gb346 (Nat.le_of_eq hg.symm)) hb); have n2_ := Aside0.mk (Kd.N_below (Kd.N_elderB (by (with_reducible repeat (first | apply Kd.N_alloc | apply Kd.N_drewN | apply Kd.N_drew)); exact HO_9.out) gb346 (Nat.le_of_eq hg.symm)) hb); have n3_ := Aside0.mk (Kd.V_below (Kd.V_elderB (by (with_reducible repeat (first | apply Kd.V_alloc | apply Kd.V_drewN | apply Kd.V_drew)); exact HO_10.out) gb346 (Nat.le_of_eq hg.symm)) hb); have n4_ := Aside0.mk (Kd.V_below (Kd.V_elderB (by (with_reducible repeat (first | apply Kd.V_alloc | apply Kd.V_drewN | apply Kd.V_drew)); exact HO341.out) gb346 (Nat.le_of_eq hg.symm)) hb); have n5_ := Aside0.mk (Kd.V_below (Kd.V_elderB (by (with_reducible repeat (first | apply Kd.V_alloc | apply Kd.V_drewN | apply Kd.V_drew)); exact HO344.out) gb346 (Nat.le_of_eq hg.symm)) hb); have n6_ := Aside0.mk (blk_below (g := gb327) (o := .cells #[.int .i64 a1_0, .int .i64 a1_1, .int .i64 a1_2, .slice A1_3 l1_3.length c1_3] 25 (0, 0)) (by (with_reducible repeat (first | refine blk_drewN ?_ _ | refine blk_drew ?_ | refine blk_alloc ?_ _)); exact BK327.out) hb); have n7_ := Aside0.mk (below_step (by repeat (first | (with_reducible first | exact HB.out | apply below_alloc | apply pw_below_drewN | apply below_drew1 | refine below_set ?_ GE327.out) | exact HB.out)) hb); have n8_ := Aside0.mk (hbox); have n9_ := Aside0.mk ((by rw [hg]; exact (below_size (by repeat (first | (with_reducible first | exact HB.out | apply below_alloc | apply pw_below_drewN | apply below_drew1 | refine below_set ?_ GE327.out) | exact HB.out))) : w.heap.size ≤ gb346)); have n10_ := Aside0.mk ((by rw [hg]; exact (below_size (by repeat (first | (with_reducible first | exact HB.out | apply below_alloc | apply pw_below_drewN | apply below_drew1 | refine below_set ?_ GE327.out) | exact HB.out))) : w.heap.size ≤ gb346)); have n11_ := Aside0.mk ((by rw [hg]; exact Nat.ne_of_lt (blk_lt (g := gb327) (o := .cells #[.int .i64 a1_0, .int .i64 a1_1, .int .i64 a1_2, .slice A1_3 l1_3.length c1_3] 25 (0, 0)) (by (with_reducible repeat (first | refine blk_drewN ?_ _ | refine blk_drew ?_ | refine blk_alloc ?_ _)); exact BK327.out)) : gb327 ≠ gb346)); have n12_ := Aside0.mk ((by rw [hg]; exact Nat.ne_of_gt (blk_lt (g := gb327) (o := .cells #[.int .i64 a1_0, .int .i64 a1_1, .int .i64 a1_2, .slice A1_3 l1_3.length c1_3] 25 (0, 0)) (by (with_reducible repeat (first | refine blk_drewN ?_ _ | refine blk_drew ?_ | refine blk_alloc ?_ _)); exact BK327.out)) : gb346 ≠ gb327)); clear HO_7; clear HO_8; clear HO_9; clear HO_10; clear HO341; clear HO344; clear BK327; clear HB; have HO_7 := n0_; have HO_8 := n1_; have HO_9 := n2_; have HO_10 := n3_; have HO341 := n4_; have HO344 := n5_; have BK327 := n6_; have HB := n7_; have BK346 := n8_; have GW346 := n9_; have GE346 := n10_; have NB327_346 := n11_; have NB346_327 := n12_; clear n0_ n1_ n2_ n3_ n4_ n5_ n6_ n7_ n8_ n9_ n10_ n11_ n12_; clear hb hbox hg; have hnb31 := NB346_327.out; have hnc31 := NB327_346.out; have hcz32_0 : w30.cell? ⟨gb346, 0, none⟩ = some (.int .i64 0) := (blk_cell BK346.out 0).trans rfl; have hcz32_1 : w30.cell? ⟨gb346, 1, none⟩ = some (.int .i64 0) := (blk_cell BK346.out 1).trans rfl; have hcz32_2 : w30.cell? ⟨gb346, 2, none⟩ = some (.int .i64 0) := (blk_cell BK346.out 2).trans rfl; have hcz32_3 : w30.cell? ⟨gb346, 3, none⟩ = some (.slice none 0 0) := (blk_cell BK346.out 3).trans rfl; have hfz32_0 := blk_frozen BK346.out 0; have hfz32_1 := blk_frozen BK346.out 1; have hfz32_2 := blk_frozen BK346.out 2; have hfz32_3 := blk_frozen BK346.out 3; obtain ⟨Ao33, co33, eo33⟩ := Kd.V_slice HO341.out; subst eo33))
                            have n0_ : Aside0 (Kd.V k25 25 ((((w30.setCell ⟨gb346, 0, none⟩ (.int .i64 t336)).setCell ⟨gb346, 1, none⟩ (.int .i64 t337)).setCell ⟨gb346, 2, none⟩ (.int .i64 t338)).setCell ⟨gb346, 3, none⟩ (.slice Ao33 t339.length co33)) w.heap.size (fun k_ => some k_ ≠ (u9 : Value).ownBlock ∧ k_ ≠ gb327 ∧ k_ ≠ gb346) (.slice Ao16 t330.length co16) t330) := ⟨by (with_reducible repeat (first | apply Kd.V_alloc | apply Kd.V_drewN | apply Kd.V_drew)); exact Kd.V_mono (Kd.V_far (p := ⟨gb346, 3, none⟩) (Kd.V_far (p := ⟨gb346, 2, none⟩) (Kd.V_far (p := ⟨gb346, 1, none⟩) (Kd.V_far (p := ⟨gb346, 0, none⟩) (Kd.V_mono HO_7.out (fun k_ hk => (⟨hk, hk.2⟩ : _ ∧ k_ ≠ gb346))) (fun _ hk => hk.2) (.int .i64 t336)) (fun _ hk => hk.2) (.int .i64 t337)) (fun _ hk => hk.2) (.int .i64 t338)) (fun _ hk => hk.2) (.slice Ao33 t339.length co33)) (fun _ hk => ⟨hk.1.1.1, ⟨hk.1.1.2, hk.1.2⟩⟩)⟩
                            have n1_ : Aside0 (Kd.V k25 25 ((((w30.setCell ⟨gb346, 0, none⟩ (.int .i64 t336)).setCell ⟨gb346, 1, none⟩ (.int .i64 t337)).setCell ⟨gb346, 2, none⟩ (.int .i64 t338)).setCell ⟨gb346, 3, none⟩ (.slice Ao33 t339.length co33)) w.heap.size (fun k_ => some k_ ≠ (u9 : Value).ownBlock ∧ k_ ≠ gb327 ∧ k_ ≠ gb346) v334 t333) := ⟨by (with_reducible repeat (first | apply Kd.V_alloc | apply Kd.V_drewN | apply Kd.V_drew)); exact Kd.V_mono (Kd.V_far (p := ⟨gb346, 3, none⟩) (Kd.V_far (p := ⟨gb346, 2, none⟩) (Kd.V_far (p := ⟨gb346, 1, none⟩) (Kd.V_far (p := ⟨gb346, 0, none⟩) (Kd.V_mono HO_8.out (fun k_ hk => (⟨hk, hk.2⟩ : _ ∧ k_ ≠ gb346))) (fun _ hk => hk.2) (.int .i64 t336)) (fun _ hk => hk.2) (.int .i64 t337)) (fun _ hk => hk.2) (.int .i64 t338)) (fun _ hk => hk.2) (.slice Ao33 t339.length co33)) (fun _ hk => ⟨hk.1.1.1, ⟨hk.1.1.2, hk.1.2⟩⟩)⟩
                            have n2_ : Aside0 (Kd.N k25 25 ((((w30.setCell ⟨gb346, 0, none⟩ (.int .i64 t336)).setCell ⟨gb346, 1, none⟩ (.int .i64 t337)).setCell ⟨gb346, 2, none⟩ (.int .i64 t338)).setCell ⟨gb346, 3, none⟩ (.slice Ao33 t339.length co33)) w.heap.size (fun k_ => k_ ≠ gb327 ∧ k_ ≠ gb346) u9 x9_2) := ⟨by (with_reducible repeat (first | apply Kd.N_alloc | apply Kd.N_drewN | apply Kd.N_drew)); exact Kd.N_mono (Kd.N_far (p := ⟨gb346, 3, none⟩) (Kd.N_far (p := ⟨gb346, 2, none⟩) (Kd.N_far (p := ⟨gb346, 1, none⟩) (Kd.N_far (p := ⟨gb346, 0, none⟩) (Kd.N_mono HO_9.out (fun k_ hk => (⟨hk, hk.2⟩ : _ ∧ k_ ≠ gb346))) (fun _ hk => hk.2) (.int .i64 t336)) (fun _ hk => hk.2) (.int .i64 t337)) (fun _ hk => hk.2) (.int .i64 t338)) (fun _ hk => hk.2) (.slice Ao33 t339.length co33)) (fun _ hk => ⟨hk.1.1, hk.1.2⟩)⟩
                            have n3_ : Aside0 (Kd.V k25 25 ((((w30.setCell ⟨gb346, 0, none⟩ (.int .i64 t336)).setCell ⟨gb346, 1, none⟩ (.int .i64 t337)).setCell ⟨gb346, 2, none⟩ (.int .i64 t338)).setCell ⟨gb346, 3, none⟩ (.slice Ao33 t339.length co33)) w.heap.size (fun k_ => some k_ ≠ (u9 : Value).ownBlock ∧ k_ ≠ gb327 ∧ k_ ≠ gb346) (.slice Ao28 x10_2.length co28) x10_2) := ⟨by (with_reducible repeat (first | apply Kd.V_alloc | apply Kd.V_drewN | apply Kd.V_drew)); exact Kd.V_mono (Kd.V_far (p := ⟨gb346, 3, none⟩) (Kd.V_far (p := ⟨gb346, 2, none⟩) (Kd.V_far (p := ⟨gb346, 1, none⟩) (Kd.V_far (p := ⟨gb346, 0, none⟩) (Kd.V_mono HO_10.out (fun k_ hk => (⟨hk, hk.2⟩ : _ ∧ k_ ≠ gb346))) (fun _ hk => hk.2) (.int .i64 t336)) (fun _ hk => hk.2) (.int .i64 t337)) (fun _ hk => hk.2) (.int .i64 t338)) (fun _ hk => hk.2) (.slice Ao33 t339.length co33)) (fun _ hk => ⟨hk.1.1.1, ⟨hk.1.1.2, hk.1.2⟩⟩)⟩
                            have n4_ : Aside0 (Kd.V (Kd.int .u8) 5 ((((w30.setCell ⟨gb346, 0, none⟩ (.int .i64 t336)).setCell ⟨gb346, 1, none⟩ (.int .i64 t337)).setCell ⟨gb346, 2, none⟩ (.int .i64 t338)).setCell ⟨gb346, 3, none⟩ (.slice Ao33 t339.length co33)) w.heap.size (fun k_ => some k_ ≠ (u9 : Value).ownBlock ∧ k_ ≠ gb327 ∧ k_ ≠ gb346) (.slice Ao33 t339.length co33) t339) := ⟨by (with_reducible repeat (first | apply Kd.V_alloc | apply Kd.V_drewN | apply Kd.V_drew)); exact Kd.V_mono (Kd.V_far (p := ⟨gb346, 3, none⟩) (Kd.V_far (p := ⟨gb346, 2, none⟩) (Kd.V_far (p := ⟨gb346, 1, none⟩) (Kd.V_far (p := ⟨gb346, 0, none⟩) (Kd.V_mono HO341.out (fun k_ hk => (⟨hk, hk.2⟩ : _ ∧ k_ ≠ gb346))) (fun _ hk => hk.2) (.int .i64 t336)) (fun _ hk => hk.2) (.int .i64 t337)) (fun _ hk => hk.2) (.int .i64 t338)) (fun _ hk => hk.2) (.slice Ao33 t339.length co33)) (fun _ hk => ⟨hk.1.1.1, ⟨hk.1.1.2, hk.1.2⟩⟩)⟩
                            have n5_ : Aside0 (Kd.V k25 25 ((((w30.setCell ⟨gb346, 0, none⟩ (.int .i64 t336)).setCell ⟨gb346, 1, none⟩ (.int .i64 t337)).setCell ⟨gb346, 2, none⟩ (.int .i64 t338)).setCell ⟨gb346, 3, none⟩ (.slice Ao33 t339.length co33)) w.heap.size (fun k_ => some k_ ≠ (u9 : Value).ownBlock ∧ k_ ≠ gb327 ∧ k_ ≠ gb346) v343 t342) := ⟨by (with_reducible repeat (first | apply Kd.V_alloc | apply Kd.V_drewN | apply Kd.V_drew)); exact Kd.V_mono (Kd.V_far (p := ⟨gb346, 3, none⟩) (Kd.V_far (p := ⟨gb346, 2, none⟩) (Kd.V_far (p := ⟨gb346, 1, none⟩) (Kd.V_far (p := ⟨gb346, 0, none⟩) (Kd.V_mono HO344.out (fun k_ hk => (⟨hk, hk.2⟩ : _ ∧ k_ ≠ gb346))) (fun _ hk => hk.2) (.int .i64 t336)) (fun _ hk => hk.2) (.int .i64 t337)) (fun _ hk => hk.2) (.int .i64 t338)) (fun _ hk => hk.2) (.slice Ao33 t339.length co33)) (fun _ hk => ⟨hk.1.1.1, ⟨hk.1.1.2, hk.1.2⟩⟩)⟩
                            have n6_ : Aside0 (((((w30.setCell ⟨gb346, 0, none⟩ (.int .i64 t336)).setCell ⟨gb346, 1, none⟩ (.int .i64 t337)).setCell ⟨gb346, 2, none⟩ (.int .i64 t338)).setCell ⟨gb346, 3, none⟩ (.slice Ao33 t339.length co33)).heap[gb327]? = some (.cells #[.int .i64 a1_0, .int .i64 a1_1, .int .i64 a1_2, .slice A1_3 l1_3.length c1_3] 25 (0, 0))) := ⟨by (with_reducible repeat (first | refine blk_drewN ?_ _ | refine blk_drew ?_ | refine blk_alloc ?_ _)); refine blk_far ?_ NB327_346.out _; (with_reducible repeat (first | refine blk_drewN ?_ _ | refine blk_drew ?_ | refine blk_alloc ?_ _)); refine blk_far ?_ NB327_346.out _; (with_reducible repeat (first | refine blk_drewN ?_ _ | refine blk_drew ?_ | refine blk_alloc ?_ _)); refine blk_far ?_ NB327_346.out _; (with_reducible repeat (first | refine blk_drewN ?_ _ | refine blk_drew ?_ | refine blk_alloc ?_ _)); refine blk_far ?_ NB327_346.out _; (with_reducible repeat (first | refine blk_drewN ?_ _ | refine blk_drew ?_ | refine blk_alloc ?_ _)); exact BK327.out⟩
                            have n7_ : Aside0 (((((w30.setCell ⟨gb346, 0, none⟩ (.int .i64 t336)).setCell ⟨gb346, 1, none⟩ (.int .i64 t337)).setCell ⟨gb346, 2, none⟩ (.int .i64 t338)).setCell ⟨gb346, 3, none⟩ (.slice Ao33 t339.length co33)).heap[gb346]? = some (.cells #[.int .i64 t336, .int .i64 t337, .int .i64 t338, .slice Ao33 t339.length co33] 25 (0, 0))) := ⟨by (with_reducible repeat (first | refine blk_drewN ?_ _ | refine blk_drew ?_ | refine blk_alloc ?_ _)); refine blk_put (cs := #[.int .i64 t336, .int .i64 t337, .int .i64 t338, .slice none 0 0]) ?_ 3 _ rfl; (with_reducible repeat (first | refine blk_drewN ?_ _ | refine blk_drew ?_ | refine blk_alloc ?_ _)); refine blk_put (cs := #[.int .i64 t336, .int .i64 t337, .int .i64 0, .slice none 0 0]) ?_ 2 _ rfl; (with_reducible repeat (first | refine blk_drewN ?_ _ | refine blk_drew ?_ | refine blk_alloc ?_ _)); refine blk_put (cs := #[.int .i64 t336, .int .i64 0, .int .i64 0, .slice none 0 0]) ?_ 1 _ rfl; (with_reducible repeat (first | refine blk_drewN ?_ _ | refine blk_drew ?_ | refine blk_alloc ?_ _)); refine blk_put (cs := #[.int .i64 0, .int .i64 0, .int .i64 0, .slice none 0 0]) ?_ 0 _ rfl; (with_reducible repeat (first | refine blk_drewN ?_ _ | refine blk_drew ?_ | refine blk_alloc ?_ _)); exact BK346.out⟩
                            have n8_ : Aside0 (Below w.heap.size w ((((w30.setCell ⟨gb346, 0, none⟩ (.int .i64 t336)).setCell ⟨gb346, 1, none⟩ (.int .i64 t337)).setCell ⟨gb346, 2, none⟩ (.int .i64 t338)).setCell ⟨gb346, 3, none⟩ (.slice Ao33 t339.length co33))) := ⟨by repeat (first | (with_reducible first | exact HB.out | apply below_alloc | apply pw_below_drewN | apply below_drew1 | refine below_set ?_ GE327.out | refine below_set ?_ GE346.out) | exact HB.out)⟩
                            (try clear HO_7)
                            (try clear HO_8)
                            (try clear HO_9)
                            (try clear HO_10)
                            (try clear HO341)
                            (try clear HO344)
                            (try clear BK327)
                            (try clear BK346)
                            (try clear HB)
                            generalize ((((w30.setCell ⟨gb346, 0, none⟩ (.int .i64 t336)).setCell ⟨gb346, 1, none⟩ (.int .i64 t337)).setCell ⟨gb346, 2, none⟩ (.int .i64 t338)).setCell ⟨gb346, 3, none⟩ (.slice Ao33 t339.length co33)) = w34 at n0_ n1_ n2_ n3_ n4_ n5_ n6_ n7_ n8_ ⊢
                            have HO_7 := n0_
                            have HO_8 := n1_
                            have HO_9 := n2_
                            have HO_10 := n3_
                            have HO341 := n4_
                            have HO344 := n5_
                            have BK327 := n6_
                            have BK346 := n7_
                            have HB := n8_
                            clear n0_ n1_ n2_ n3_ n4_ n5_ n6_ n7_ n8_
                            have n0_ := Aside0.mk (Kd.V_drew HO_7.out)
                            have n1_ := Aside0.mk (Kd.V_drew HO_8.out)
                            have n2_ := Aside0.mk (Kd.N_drew HO_9.out)
                            have n3_ := Aside0.mk (Kd.V_drew HO_10.out)
                            have n4_ := Aside0.mk (Kd.V_drew HO341.out)
                            have n5_ := Aside0.mk (Kd.V_drew HO344.out)
                            have n6_ := Aside0.mk (blk_drew BK327.out)
                            have n7_ := Aside0.mk (blk_drew BK346.out)
                            have n8_ := Aside0.mk (below_drew1 HB.out)
                            clear HO_7
                            clear HO_8
                            clear HO_9
                            clear HO_10
                            clear HO341
                            clear HO344
                            clear BK327
                            clear BK346
                            clear HB
                            have HO_7 := n0_
                            have HO_8 := n1_
                            have HO_9 := n2_
                            have HO_10 := n3_
                            have HO341 := n4_
                            have HO344 := n5_
                            have BK327 := n6_
                            have BK346 := n7_
                            have HB := n8_
                            clear n0_ n1_ n2_ n3_ n4_ n5_ n6_ n7_ n8_
                            obtain ⟨Ao36, co36, eo36⟩ := Kd.N_slice HO_9.out
                            (first | subst eo36 | (injection eo36 with f1_ f2_ f3_; have f4_ := f1_.symm; have f5_ := f3_.symm; clear f1_ f2_ f3_; subst f4_; subst f5_))
                            have p347 : 0 ≤ ((ji21) : Int) := of_decide_eq_true (by first | (with_reducible assumption) | assumption)
                            have q347 : (ji21) < (x9_2.length : Int) := of_decide_eq_true (by first | (with_reducible assumption) | assumption)
                            obtain ⟨ad347, A347_3, c347_3, e347, hx347_0, hx347_1, hx347_2, hx347_3, hl347_3, hi347_3⟩ := at_T25 (Kd.N_reads' HO_9.out).2.2 (ji21) p347 q347
                            cases e347
                            obtain ⟨ce347, hce347, hMe347, hcc347⟩ := Kd.N_get HO_9.out z25 (ji21) p347 (by first | exact q347 | exact of_decide_eq_true (by first | (with_reducible assumption) | assumption) | (have e_ := (Kd.N_reads' HO_9.out).1; omega))
                            obtain ⟨ua347_3, uc347_3, rfl, ul347_3, ge347_3⟩ := k25_openF hMe347
                            have hv347_3 := hcc347 3 _ rfl
                            rw [add_field _ _ 3 (by omega)] at hv347_3
                            replace hv347_3 := Option.some.inj (hv347_3.symm.trans hx347_3)
                            injection hv347_3 with hva_ hvn_ hvc_
                            rw [hva_] at ge347_3
                            rw [hvc_] at ul347_3
                            have HL347_3 := Aside0.mk (show Kd.V (Kd.int .u8) 5 _ w.heap.size _ _ ((rd_T25 x9_2 (ji21)).f3) from Kd.V_mk ul347_3 ge347_3)
                            clear hva_ hvn_ hvc_ ge347_3 ul347_3
                            clear hcc347 hce347
                            have HR347_3 := Aside0.mk hi347_3
                            have HC347_3 := Aside0.mk hl347_3
                            clear hi347_3 hl347_3
                            replace p347 := eq_true p347
                            replace q347 := eq_true q347
                            refine start_ (n := 21) (S := fun w' => w'.cell? ⟨gb346, 0, none⟩ = some (.int .i64 t336) ∧ w'.cell? ⟨gb346, 1, none⟩ = some (.int .i64 t337) ∧ w'.cell? ⟨gb346, 2, none⟩ = some (.int .i64 t338) ∧ w'.cell? ⟨gb346, 3, none⟩ = some (.slice Ao33 t339.length co33) ∧ w'.cell? (ad347.add (((ji21)).toNat * 4)) = some (.int .i64 ((rd_T25 x9_2 (ji21)).f0)) ∧ w'.cell? ⟨(ad347.add (((ji21)).toNat * 4)).block, (ad347.add (((ji21)).toNat * 4)).off + 1, none⟩ = some (.int .i64 ((rd_T25 x9_2 (ji21)).f1)) ∧ w'.cell? ⟨(ad347.add (((ji21)).toNat * 4)).block, (ad347.add (((ji21)).toNat * 4)).off + 2, none⟩ = some (.int .i64 ((rd_T25 x9_2 (ji21)).f2)) ∧ w'.cell? ⟨(ad347.add (((ji21)).toNat * 4)).block, (ad347.add (((ji21)).toNat * 4)).off + 3, none⟩ = some (.slice A347_3 ((rd_T25 x9_2 (ji21)).f3).length c347_3)) (ds := []) #[false, false, false, false, false, false, false, false, false, false, false, false, false, false, false, false, false, false, false, false, false] (by kernel_rfl) rfl rfl ⟨(blk_cell BK346.out 0).trans rfl, (blk_cell BK346.out 1).trans rfl, (blk_cell BK346.out 2).trans rfl, (blk_cell BK346.out 3).trans rfl, hx347_0, hx347_1, hx347_2, hx347_3⟩ (fun hHeld => ?_); refine with_tabW affidavitlaw20_QueueOrder.tab11 affidavitlaw20_QueueOrder.bits11 (fun HT_ HW_ => ?_)
                            generalize w34.drew = w35 at HO_7 HO_8 HO_9 HO_10 HO341 HO344 BK327 BK346 HB HL347_3 HR347_3 hx347_0 hx347_1 hx347_2 hx347_3 hHeld ⊢
                            refine pure_ (i := 0) (N := some 49) (v := ?_) (a' := ?_) #[true, false, false, false, false, false, false, false, false, false, false, false, false, false, false, false, false, false, false, false, false] rfl rfl (any_of HT_.out (by kernel_rfl)) (fun _ _ _ h => h) (Or.inl ⟨by rfl, ?_⟩) ?_ ?_
                            rotate_left
                            · intro w'
                              go_simp
                              with_reducible rfl
                            rotate_left
                            · simp only [Act.put, List.setIfInBounds_toArray, List.set_cons_zero, List.set_cons_succ, i64_w, i32_w]
                              rfl
                            refine pure_ (i := 1) (N := some 50) (v := ?_) (a' := ?_) #[true, true, false, false, false, false, false, false, false, false, false, false, false, false, false, false, false, false, false, false, false] rfl rfl (any_of HT_.out (by kernel_rfl)) (fun _ _ _ h => h) (Or.inl ⟨by rfl, ?_⟩) ?_ ?_
                            rotate_left
                            · intro w'
                              go_simp
                              with_reducible rfl
                            rotate_left
                            · simp only [Act.put, List.setIfInBounds_toArray, List.set_cons_zero, List.set_cons_succ, i64_w, i32_w]
                              rfl
                            refine pure_ (i := 2) (N := some 51) (v := ?_) (a' := ?_) #[true, true, true, false, false, false, false, false, false, false, false, false, false, false, false, false, false, false, false, false, false] rfl rfl (any_of HT_.out (by kernel_rfl)) (fun _ _ _ h => h) (Or.inl ⟨by rfl, ?_⟩) ?_ ?_
                            rotate_left
                            · intro w'
                              go_simp
                              with_reducible rfl
                            rotate_left
                            · simp only [Act.put, List.setIfInBounds_toArray, List.set_cons_zero, List.set_cons_succ, i64_w, i32_w]
                              rfl
                            refine pure_ (i := 3) (N := some 52) (v := ?_) (a' := ?_) #[true, true, true, true, false, false, false, false, false, false, false, false, false, false, false, false, false, false, false, false, false] rfl rfl (any_of HT_.out (by kernel_rfl)) (fun _ _ _ h => h) (Or.inl ⟨by rfl, ?_⟩) ?_ ?_
                            rotate_left
                            · intro w'
                              go_simp
                              with_reducible rfl
                            rotate_left
                            · simp only [Act.put, List.setIfInBounds_toArray, List.set_cons_zero, List.set_cons_succ, i64_w, i32_w]
                              rfl
                            refine pure_ (i := 5) (N := some 54) (v := ?_) (a' := ?_) #[true, true, true, true, false, true, false, false, false, false, false, false, false, false, false, false, false, false, false, false, false] rfl rfl (any_of HT_.out (by kernel_rfl)) (fun _ _ _ h => h) (Or.inl ⟨by rfl, ?_⟩) ?_ ?_
                            rotate_left
                            · intro w'
                              go_simp
                              with_reducible rfl
                            rotate_left
                            · simp only [Act.put, List.setIfInBounds_toArray, List.set_cons_zero, List.set_cons_succ, i64_w, i32_w]
                              rfl
                            refine pure_ (i := 6) (N := some 55) (v := ?_) (a' := ?_) #[true, true, true, true, false, true, true, false, false, false, false, false, false, false, false, false, false, false, false, false, false] rfl rfl (any_of HT_.out (by kernel_rfl)) (fun _ _ _ h => h) (Or.inl ⟨by rfl, ?_⟩) ?_ ?_
                            rotate_left
                            · intro w'
                              go_simp
                              with_reducible rfl
                            rotate_left
                            · simp only [Act.put, List.setIfInBounds_toArray, List.set_cons_zero, List.set_cons_succ, i64_w, i32_w]
                              rfl
                            refine pure_ (i := 7) (N := some 56) (v := ?_) (a' := ?_) #[true, true, true, true, false, true, true, true, false, false, false, false, false, false, false, false, false, false, false, false, false] rfl rfl (any_of HT_.out (by kernel_rfl)) (fun _ _ _ h => h) (Or.inl ⟨by rfl, ?_⟩) ?_ ?_
                            rotate_left
                            · intro w'
                              go_simp
                              with_reducible rfl
                            rotate_left
                            · simp only [Act.put, List.setIfInBounds_toArray, List.set_cons_zero, List.set_cons_succ, i64_w, i32_w]
                              rfl
                            refine pure_ (i := 8) (N := some 57) (v := ?_) (a' := ?_) #[true, true, true, true, false, true, true, true, true, false, false, false, false, false, false, false, false, false, false, false, false] rfl rfl (any_of HT_.out (by kernel_rfl)) (fun _ _ _ h => h) (Or.inl ⟨by rfl, ?_⟩) ?_ ?_
                            rotate_left
                            · intro w'
                              go_simp
                              with_reducible rfl
                            rotate_left
                            · simp only [Act.put, List.setIfInBounds_toArray, List.set_cons_zero, List.set_cons_succ, i64_w, i32_w]
                              rfl
                            refine pure_ (i := 9) (N := some 58) (v := ?_) (a' := ?_) #[true, true, true, true, false, true, true, true, true, true, false, false, false, false, false, false, false, false, false, false, false] rfl rfl (any_of HT_.out (by kernel_rfl)) (fun _ _ _ h => h) (Or.inl ⟨by rfl, ?_⟩) ?_ ?_
                            rotate_left
                            · intro w'
                              go_simp
                              with_reducible rfl
                            rotate_left
                            · simp only [Act.put, List.setIfInBounds_toArray, List.set_cons_zero, List.set_cons_succ, i64_w, i32_w]
                              rfl
                            refine take_ (i := 4) (N := some 53) (v := ?_) (a' := ?_) #[true, true, true, true, true, true, true, true, true, true, false, false, false, false, false, false, false, false, false, false, false] rfl rfl (take_ofW HT_.out HW_.out (by kernel_rfl)) (fun _ _ _ h => h) (Or.inl ⟨by rfl, ?_⟩) hHeld ?_ ?_
                            rotate_left
                            · rintro w' ⟨s0, s1, s2, s3, s4, s5, s6, s7⟩
                              go_simp
                              with_reducible rfl
                            rotate_left
                            · simp only [Act.put, List.setIfInBounds_toArray, List.set_cons_zero, List.set_cons_succ, i64_w, i32_w]
                              rfl
                            refine take_ (i := 10) (N := some 59) (v := ?_) (a' := ?_) #[true, true, true, true, true, true, true, true, true, true, true, false, false, false, false, false, false, false, false, false, false] rfl rfl (take_ofW HT_.out HW_.out (by kernel_rfl)) (fun _ _ _ h => h) (Or.inl ⟨by rfl, ?_⟩) hHeld ?_ ?_
                            rotate_left
                            · rintro w' ⟨s0, s1, s2, s3, s4, s5, s6, s7⟩
                              go_simp
                              with_reducible rfl
                            rotate_left
                            · simp only [Act.put, List.setIfInBounds_toArray, List.set_cons_zero, List.set_cons_succ, i64_w, i32_w]
                              rfl
                            refine one_ (i := 11) (N := some 60) #[true, true, true, true, true, true, true, true, true, true, true, true, false, false, false, false, false, false, false, false, false] rfl rfl (one_of HT_.out (by kernel_rfl)) (by decide) (fun K hK => ?_)
                            refine goes_ Try.func15 (by kernel_rfl) rfl #[.agg #[.int .i64 t336, .int .i64 t337, .int .i64 t338, .slice Ao33 t339.length co33], .agg #[.int .i64 ((rd_T25 x9_2 (ji21)).f0), .int .i64 ((rd_T25 x9_2 (ji21)).f1), .int .i64 ((rd_T25 x9_2 (ji21)).f2), .slice A347_3 ((rd_T25 x9_2 (ji21)).f3).length c347_3]] (by rfl) rfl rfl (by (try simp only [List.map_toArray, List.map_cons, List.map_nil]); first | done | (simp only [hji21]; rfl) | rfl | (simp only [List.length_drop, List.length_take]; rfl)) ?_
                            with_reducible refine (queue_Less.calls k2 t336 t337 t338 _ _ t339 ((rd_T25 x9_2 (ji21)).f0) ((rd_T25 x9_2 (ji21)).f1) ((rd_T25 x9_2 (ji21)).f2) _ _ ((rd_T25 x9_2 (ji21)).f3) false _ ?side1 ?side2 ?side3 ?side4 A24.out).mono ?_
                            (case side1 => repeat (first | exact (Kd.V_reads' HO341.out).2.2 | (with_reducible refine Kd.C_alloc ?_ _) | (with_reducible refine Kd.C_drewN ?_ _) | (with_reducible refine Kd.C_drew ?_)))
                            (case side2 => exact (Kd.V_reads' HO341.out).2.1)
                            (case side3 => repeat (first | exact (by repeat (first | (with_reducible exact HR347_3.out) | (with_reducible refine Kd.C_alloc ?_ _) | (with_reducible refine Kd.C_drewN ?_ _) | (with_reducible refine Kd.C_drew ?_) | exact HR347_3.out)) | (with_reducible refine Kd.C_alloc ?_ _) | (with_reducible refine Kd.C_drewN ?_ _) | (with_reducible refine Kd.C_drew ?_)))
                            (case side4 => exact HC347_3.out)
                            rintro e w37 ⟨rfl, hb⟩
                            have HS4_ := (hb.cell (World.block_lt_of_cell? _ _ (hHeld.2.2.2.2.1))).trans (hHeld.2.2.2.2.1)
                            have HS5_ := (hb.cell (World.block_lt_of_cell? _ _ (hHeld.2.2.2.2.2.1))).trans (hHeld.2.2.2.2.2.1)
                            have HS6_ := (hb.cell (World.block_lt_of_cell? _ _ (hHeld.2.2.2.2.2.2.1))).trans (hHeld.2.2.2.2.2.2.1)
                            have HS7_ := (hb.cell (World.block_lt_of_cell? _ _ (hHeld.2.2.2.2.2.2.2))).trans (hHeld.2.2.2.2.2.2.2)
                            refine ⟨_, rfl, ?_⟩
                            have n0_ := Aside0.mk (Kd.V_below (by (with_reducible repeat (first | apply Kd.V_alloc | apply Kd.V_drewN | apply Kd.V_drew)); exact HO_7.out) hb)
                            have n1_ := Aside0.mk (Kd.V_below (by (with_reducible repeat (first | apply Kd.V_alloc | apply Kd.V_drewN | apply Kd.V_drew)); exact HO_8.out) hb)
                            have n2_ := Aside0.mk (Kd.N_below (by (with_reducible repeat (first | apply Kd.N_alloc | apply Kd.N_drewN | apply Kd.N_drew)); exact HO_9.out) hb)
                            have n3_ := Aside0.mk (Kd.V_below (by (with_reducible repeat (first | apply Kd.V_alloc | apply Kd.V_drewN | apply Kd.V_drew)); exact HO_10.out) hb)
                            have n4_ := Aside0.mk (Kd.V_below (by (with_reducible repeat (first | apply Kd.V_alloc | apply Kd.V_drewN | apply Kd.V_drew)); exact HO341.out) hb)
                            have n5_ := Aside0.mk (Kd.V_below (by (with_reducible repeat (first | apply Kd.V_alloc | apply Kd.V_drewN | apply Kd.V_drew)); exact HO344.out) hb)
                            have n6_ := Aside0.mk (Kd.V_below (by (with_reducible repeat (first | apply Kd.V_alloc | apply Kd.V_drewN | apply Kd.V_drew)); exact HL347_3.out) hb)
                            have n7_ := Aside0.mk (blk_below (g := gb327) (o := .cells #[.int .i64 a1_0, .int .i64 a1_1, .int .i64 a1_2, .slice A1_3 l1_3.length c1_3] 25 (0, 0)) (by (with_reducible repeat (first | refine blk_drewN ?_ _ | refine blk_drew ?_ | refine blk_alloc ?_ _)); exact BK327.out) hb)
                            have n8_ := Aside0.mk (blk_below (g := gb346) (o := .cells #[.int .i64 t336, .int .i64 t337, .int .i64 t338, .slice Ao33 t339.length co33] 25 (0, 0)) (by (with_reducible repeat (first | refine blk_drewN ?_ _ | refine blk_drew ?_ | refine blk_alloc ?_ _)); exact BK346.out) hb)
                            have n9_ := Aside0.mk (Kd.C_below (by repeat (first | (with_reducible exact HR347_3.out) | (with_reducible refine Kd.C_alloc ?_ _) | (with_reducible refine Kd.C_drewN ?_ _) | (with_reducible refine Kd.C_drew ?_) | exact HR347_3.out)) hb)
                            have n10_ := Aside0.mk (below_step (by repeat (first | (with_reducible first | exact HB.out | apply below_alloc | apply pw_below_drewN | apply below_drew1 | refine below_set ?_ GE327.out | refine below_set ?_ GE346.out) | exact HB.out)) hb)
                            clear HO_7
                            clear HO_8
                            clear HO_9
                            clear HO_10
                            clear HO341
                            clear HO344
                            clear HL347_3
                            clear BK327
                            clear BK346
                            clear HR347_3
                            clear HB
                            have HO_7 := n0_
                            have HO_8 := n1_
                            have HO_9 := n2_
                            have HO_10 := n3_
                            have HO341 := n4_
                            have HO344 := n5_
                            have HL347_3 := n6_
                            have BK327 := n7_
                            have BK346 := n8_
                            have HR347_3 := n9_
                            have HB := n10_
                            clear n0_ n1_ n2_ n3_ n4_ n5_ n6_ n7_ n8_ n9_ n10_
                            (try clear hb)
                            (try clear hb2)
                            (try clear hk)
                            (try clear hi)
                            obtain ⟨Ao38, co38, eo38⟩ := Kd.V_slice HO344.out
                            (first | subst eo38 | (injection eo38 with f1_ f2_ f3_; have f4_ := f1_.symm; have f5_ := f3_.symm; clear f1_ f2_ f3_; subst f4_; subst f5_))
                            refine hK.out _ _ ⟨(blk_cell BK346.out 0).trans rfl, (blk_cell BK346.out 1).trans rfl, (blk_cell BK346.out 2).trans rfl, (blk_cell BK346.out 3).trans rfl, HS4_, HS5_, HS6_, HS7_⟩ (fun hHeld => ?_)
                            clear hK K
                            refine norm_ (a' := ?_) ?_ ?_
                            rotate_left
                            · show Act.put _ (some 60) _ = _
                              simp only [Act.put, List.setIfInBounds_toArray, List.set_cons_zero, List.set_cons_succ, i64_w, i32_w]
                              rfl
                            refine pure_ (i := 12) (N := some 61) (v := ?_) (a' := ?_) #[true, true, true, true, true, true, true, true, true, true, true, true, true, false, false, false, false, false, false, false, false] rfl rfl (any_of HT_.out (by kernel_rfl)) (fun _ _ _ h => h) (Or.inl ⟨by rfl, ?_⟩) ?_ ?_
                            rotate_left
                            · intro w'
                              go_simp
                              with_reducible rfl
                            rotate_left
                            · simp only [Act.put, List.setIfInBounds_toArray, List.set_cons_zero, List.set_cons_succ, i64_w, i32_w]
                              rfl
                            refine pure_ (i := 13) (N := some 62) (v := ?_) (a' := ?_) #[true, true, true, true, true, true, true, true, true, true, true, true, true, true, false, false, false, false, false, false, false] rfl rfl (any_of HT_.out (by kernel_rfl)) (fun _ _ _ h => h) (Or.inl ⟨by rfl, ?_⟩) ?_ ?_
                            rotate_left
                            · intro w'
                              go_simp
                              with_reducible rfl
                            rotate_left
                            · simp only [Act.put, List.setIfInBounds_toArray, List.set_cons_zero, List.set_cons_succ, i64_w, i32_w]
                              rfl
                            refine pure_ (i := 14) (N := some 63) (v := ?_) (a' := ?_) #[true, true, true, true, true, true, true, true, true, true, true, true, true, true, true, false, false, false, false, false, false] rfl rfl (any_of HT_.out (by kernel_rfl)) (fun _ _ _ h => h) (Or.inl ⟨by rfl, ?_⟩) ?_ ?_
                            rotate_left
                            · intro w'
                              go_simp
                              with_reducible rfl
                            rotate_left
                            · simp only [Act.put, List.setIfInBounds_toArray, List.set_cons_zero, List.set_cons_succ, i64_w, i32_w]
                              rfl
                            refine pure_ (i := 15) (N := some 64) (v := ?_) (a' := ?_) #[true, true, true, true, true, true, true, true, true, true, true, true, true, true, true, true, false, false, false, false, false] rfl rfl (any_of HT_.out (by kernel_rfl)) (fun _ _ _ h => h) (Or.inl ⟨by rfl, ?_⟩) ?_ ?_
                            rotate_left
                            · intro w'
                              go_simp
                              with_reducible rfl
                            rotate_left
                            · simp only [Act.put, List.setIfInBounds_toArray, List.set_cons_zero, List.set_cons_succ, i64_w, i32_w]
                              rfl
                            refine pure_ (i := 16) (N := some 65) (v := ?_) (a' := ?_) #[true, true, true, true, true, true, true, true, true, true, true, true, true, true, true, true, true, false, false, false, false] rfl rfl (any_of HT_.out (by kernel_rfl)) (fun _ _ _ h => h) (Or.inl ⟨by rfl, ?_⟩) ?_ ?_
                            rotate_left
                            · intro w'
                              go_simp
                              with_reducible rfl
                            rotate_left
                            · simp only [Act.put, List.setIfInBounds_toArray, List.set_cons_zero, List.set_cons_succ, i64_w, i32_w]
                              rfl
                            refine pure_ (i := 17) (N := some 66) (v := ?_) (a' := ?_) #[true, true, true, true, true, true, true, true, true, true, true, true, true, true, true, true, true, true, false, false, false] rfl rfl (any_of HT_.out (by kernel_rfl)) (fun _ _ _ h => h) (Or.inl ⟨by rfl, ?_⟩) ?_ ?_
                            rotate_left
                            · intro w'
                              go_simp
                              with_reducible rfl
                            rotate_left
                            · simp only [Act.put, List.setIfInBounds_toArray, List.set_cons_zero, List.set_cons_succ, i64_w, i32_w]
                              rfl
                            refine pure_ (i := 18) (N := some 67) (v := ?_) (a' := ?_) #[true, true, true, true, true, true, true, true, true, true, true, true, true, true, true, true, true, true, true, false, false] rfl rfl (any_of HT_.out (by kernel_rfl)) (fun _ _ _ h => h) (Or.inl ⟨by rfl, ?_⟩) ?_ ?_
                            rotate_left
                            · intro w'
                              go_simp
                              with_reducible rfl
                            rotate_left
                            · simp only [Act.put, List.setIfInBounds_toArray, List.set_cons_zero, List.set_cons_succ, i64_w, i32_w]
                              rfl
                            refine pure_ (i := 19) (N := some 68) (v := ?_) (a' := ?_) #[true, true, true, true, true, true, true, true, true, true, true, true, true, true, true, true, true, true, true, true, false] rfl rfl (any_of HT_.out (by kernel_rfl)) (fun _ _ _ h => h) (Or.inl ⟨by rfl, ?_⟩) ?_ ?_
                            rotate_left
                            · intro w'
                              go_simp
                              with_reducible rfl
                            rotate_left
                            · simp only [Act.put, List.setIfInBounds_toArray, List.set_cons_zero, List.set_cons_succ, i64_w, i32_w]
                              rfl
                            refine pure_ (i := 20) (N := some 69) (v := ?_) (a' := ?_) #[true, true, true, true, true, true, true, true, true, true, true, true, true, true, true, true, true, true, true, true, true] rfl rfl (any_of HT_.out (by kernel_rfl)) (fun _ _ _ h => h) (Or.inl ⟨by rfl, ?_⟩) ?_ ?_
                            rotate_left
                            · intro w'
                              go_simp
                              with_reducible rfl
                            rotate_left
                            · simp only [Act.put, List.setIfInBounds_toArray, List.set_cons_zero, List.set_cons_succ, i64_w, i32_w]
                              rfl
                            refine done_ (done_of HT_.out (by kernel_rfl)) ?_
                            have hcz39_0 : w37.cell? ⟨gb346, 0, none⟩ = some (.int .i64 t336) := (blk_cell BK346.out 0).trans rfl
                            have hcz39_1 : w37.cell? ⟨gb346, 1, none⟩ = some (.int .i64 t337) := (blk_cell BK346.out 1).trans rfl
                            have hcz39_2 : w37.cell? ⟨gb346, 2, none⟩ = some (.int .i64 t338) := (blk_cell BK346.out 2).trans rfl
                            have hcz39_3 : w37.cell? ⟨gb346, 3, none⟩ = some (.slice Ao33 t339.length co33) := (blk_cell BK346.out 3).trans rfl
                            have hfz39_0 := blk_frozen BK346.out 0
                            have hfz39_1 := blk_frozen BK346.out 1
                            have hfz39_2 := blk_frozen BK346.out 2
                            have hfz39_3 := blk_frozen BK346.out 3
                            try go_wp2_with (first | ((with_reducible refine gate_builtin (b := .append) (xs := #[.tmp 70, .tmp 72]) rfl ?_); (try (refine gate_guard (by rfl) ?_; dsimp only)); at_builtin; refine Kd.N_append k25 (w0 := w) w.heap.size rfl (.tmp 70) (.tmp 72) 22 25 (.agg #[(.int .i64 0), (.int .i64 0), (.int .i64 0), (.slice none 0 0)]) 48 rfl Try.underlying22 info25 rfl (by decide) (by omega) (.slice (some ad347) x9_2.length co36) x9_2 (⟨t336, t337, t338, t339⟩ : S25) [.int .i64 t336, .int .i64 t337, .int .i64 t338, .slice Ao33 t339.length co33] (fun k_ => k_ ≠ gb327 ∧ k_ ≠ gb346) (fun k_ => ((fun k_ => k_ ≠ gb327 ∧ k_ ≠ gb346)) k_ ∧ some k_ ≠ (.slice (some ad347) x9_2.length co36 : Value).ownBlock) rfl rfl ?aP (fun _ hk => hk) ?aF ?aO ?aB ?aS ?aL ?_; (case aP => exact (k25_mkF _ _ (⟨t336, t337, t338, t339⟩ : S25) (Kd.V_reads' (Kd.V_mono (ok' := (fun k_ => ((fun k_ => k_ ≠ gb327 ∧ k_ ≠ gb346)) k_ ∧ some k_ ≠ (.slice (some ad347) x9_2.length co36 : Value).ownBlock)) (HO341.out) (fun k_ hk => ⟨⟨hk.2.1, hk.2.2⟩, hk.1⟩))).2.1 (Kd.V_F (Kd.V_mono (ok' := (fun k_ => ((fun k_ => k_ ≠ gb327 ∧ k_ ≠ gb346)) k_ ∧ some k_ ≠ (.slice (some ad347) x9_2.length co36 : Value).ownBlock)) (HO341.out) (fun k_ hk => ⟨⟨hk.2.1, hk.2.2⟩, hk.1⟩))))); (case aB => exact (by repeat (first | (with_reducible first | exact HB.out | apply below_alloc | apply pw_below_drewN | apply below_drew1 | refine below_set ?_ GE327.out | refine below_set ?_ GE346.out) | exact HB.out))); (case aF => exact (fun k_ hk => ⟨Kd.freshB (g := gb327) (o := .cells #[.int .i64 a1_0, .int .i64 a1_1, .int .i64 a1_2, .slice A1_3 l1_3.length c1_3] 25 (0, 0)) (by (with_reducible repeat (first | refine blk_drewN ?_ _ | refine blk_drew ?_ | refine blk_alloc ?_ _)); exact BK327.out) k_ hk, Kd.freshB (g := gb346) (o := .cells #[.int .i64 t336, .int .i64 t337, .int .i64 t338, .slice Ao33 t339.length co33] 25 (0, 0)) (by (with_reducible repeat (first | refine blk_drewN ?_ _ | refine blk_drew ?_ | refine blk_alloc ?_ _)); exact BK346.out) k_ hk⟩)); (case aO => exact (by (with_reducible repeat (first | apply Kd.N_alloc | apply Kd.N_drewN | apply Kd.N_drew)); exact HO_9.out)); (case aS => exact (below_size (by repeat (first | (with_reducible first | exact HB.out | apply below_alloc | apply pw_below_drewN | apply below_drew1 | refine below_set ?_ GE327.out | refine below_set ?_ GE346.out) | exact HB.out)))); (case aL => have := LMc27.out; omega); intro v350 w40 ho hb hg hat; rw [← Ny349.out] at ho; have n0_ := Aside0.mk (Kd.V_afterv (ok := (fun k_ => k_ ≠ gb327 ∧ k_ ≠ gb346)) (by (with_reducible repeat (first | apply Kd.V_alloc | apply Kd.V_drewN | apply Kd.V_drew)); exact Kd.V_mono HO_7.out (fun _ hk => ⟨⟨hk.2.1, hk.2.2⟩, hk.1⟩)) hg hat); have n1_ := Aside0.mk (Kd.V_afterv (ok := (fun k_ => k_ ≠ gb327 ∧ k_ ≠ gb346)) (by (with_reducible repeat (first | apply Kd.V_alloc | apply Kd.V_drewN | apply Kd.V_drew)); exact Kd.V_mono HO_8.out (fun _ hk => ⟨⟨hk.2.1, hk.2.2⟩, hk.1⟩)) hg hat); have n2_ := Aside0.mk (Kd.V_afterv (ok := (fun k_ => k_ ≠ gb327 ∧ k_ ≠ gb346)) (by (with_reducible repeat (first | apply Kd.V_alloc | apply Kd.V_drewN | apply Kd.V_drew)); exact Kd.V_mono HO_10.out (fun _ hk => ⟨⟨hk.2.1, hk.2.2⟩, hk.1⟩)) hg hat); have n3_ := Aside0.mk (blk_grown (g := gb327) (o := .cells #[.int .i64 a1_0, .int .i64 a1_1, .int .i64 a1_2, .slice A1_3 l1_3.length c1_3] 25 (0, 0)) (by (with_reducible repeat (first | refine blk_drewN ?_ _ | refine blk_drew ?_ | refine blk_alloc ?_ _)); exact BK327.out) hg (Kd.N_away HO_9.out (fun _ hk => hk.1))); have n4_ := Aside0.mk (Kd.V_afterv (ok := (fun k_ => k_ ≠ gb327 ∧ k_ ≠ gb346)) (by (with_reducible repeat (first | apply Kd.V_alloc | apply Kd.V_drewN | apply Kd.V_drew)); exact Kd.V_mono HO341.out (fun _ hk => ⟨⟨hk.2.1, hk.2.2⟩, hk.1⟩)) hg hat); have n5_ := Aside0.mk (Kd.V_afterv (ok := (fun k_ => k_ ≠ gb327 ∧ k_ ≠ gb346)) (by (with_reducible repeat (first | apply Kd.V_alloc | apply Kd.V_drewN | apply Kd.V_drew)); exact Kd.V_mono HO344.out (fun _ hk => ⟨⟨hk.2.1, hk.2.2⟩, hk.1⟩)) hg hat); have n6_ := Aside0.mk (blk_grown (g := gb346) (o := .cells #[.int .i64 t336, .int .i64 t337, .int .i64 t338, .slice Ao33 t339.length co33] 25 (0, 0)) (by (with_reducible repeat (first | refine blk_drewN ?_ _ | refine blk_drew ?_ | refine blk_alloc ?_ _)); exact BK346.out) hg (Kd.N_away HO_9.out (fun _ hk => hk.2))); have n7_ := Aside0.mk (Kd.V_afterv (ok := (fun k_ => k_ ≠ gb327 ∧ k_ ≠ gb346)) (by (with_reducible repeat (first | apply Kd.V_alloc | apply Kd.V_drewN | apply Kd.V_drew)); exact HL347_3.out) hg hat); have n8_ := Aside0.mk (hb); have n9_ := Aside0.mk (ho); clear HO_7; clear HO_8; clear HO_10; clear BK327; clear HO341; clear HO344; clear BK346; clear HL347_3; clear HB; clear HO_9; have HO_7 := n0_; have HO_8 := n1_; have HO_10 := n2_; have BK327 := n3_; have HO341 := n4_; have HO344 := n5_; have BK346 := n6_; have HL347_3 := n7_; have HB := n8_; have HO351 := n9_; clear n0_ n1_ n2_ n3_ n4_ n5_ n6_ n7_ n8_ n9_; clear ho hb hg hat))
                            (first | go_roundg k2 | (refine Handed.intro k2 ?measure ?_; rotate_left; go_step; (repeat apply Exists.intro); refine ⟨?rel, ?fr_⟩; (case fr_ => (simp only [Addr.add_lit, Nat.zero_add]; rfl))))
                            case measure => have := HJ5.out; have := HK2.out; omega
                            case rel => exact ⟨(y349), (t342), H', ⟨by have := HJ5.out; have := HK2.out; omega⟩, ⟨by (with_reducible repeat (first | apply Kd.V_alloc | apply Kd.V_drewN | apply Kd.V_drew)); exact Kd.V_mono HO_7.out (fun _ hk => ⟨hk.2, hk.1.1⟩)⟩, ⟨by (with_reducible repeat (first | apply Kd.V_alloc | apply Kd.V_drewN | apply Kd.V_drew)); exact Kd.V_mono HO_8.out (fun _ hk => ⟨hk.2, hk.1.1⟩)⟩, ⟨by (with_reducible repeat (first | apply Kd.N_alloc | apply Kd.N_drewN | apply Kd.N_drew)); exact Kd.N_mono HO351.out (fun _ hk => hk.1)⟩, ⟨by (with_reducible repeat (first | apply Kd.V_alloc | apply Kd.V_drewN | apply Kd.V_drew)); exact Kd.V_mono HO344.out (fun _ hk => ⟨hk.2, hk.1.1⟩)⟩, ⟨by (with_reducible repeat (first | refine blk_drewN ?_ _ | refine blk_drew ?_ | refine blk_alloc ?_ _)); exact BK327.out⟩, ⟨by repeat (first | (with_reducible first | exact HB.out | apply below_alloc | apply pw_below_drewN | apply below_drew1 | refine below_set ?_ GE327.out | refine below_set ?_ GE346.out) | exact HB.out)⟩⟩
                          · rw [if_neg c27] at H
                            exact absurd H (by simp)
                        · rw [if_neg c26] at H
                          exact absurd H (by simp)
                    · rw [if_neg c23] at H
                      exact absurd H (by simp)
                  · rw [if_neg c22] at H
                    exact absurd H (by simp)
                · rw [if_neg c20] at H
                  have c20b0 : decide (0 < (x9_2.length : Int)) = false := decide_eq_false c20
                  have c20b1 : decide (0 < x9_2.length) = false := decide_eq_false (by omega)
                  clear c20
                  by_cases c41 : (t342.length : Int) = (wrap64 ((x10_2.length : Int) - 1))
                  · rw [if_pos c41] at H
                    have c41b0 : ((t342.length : Int) == (wrap64 ((x10_2.length : Int) - 1))) = true := beq_iff_eq.mpr c41
                    have c41b1 : ((t342.length : Int) != (wrap64 ((x10_2.length : Int) - 1))) = false := bne_eq_false_iff_eq.mpr c41
                    clear c41
                    by_cases c42 : x9_2.length < 2932031007402
                    · rw [if_pos c42] at H
                      have LMc42 := Aside0.mk c42
                      clear c42
                      obtain ⟨y352, hy352⟩ : ∃ y_ : List (S25), y_ = (x9_2 ++ [(⟨t336, t337, t338, t339⟩ : S25)]) := ⟨_, rfl⟩
                      replace H : (affidavitlaw20_QueueOrder.l0 k2 l0 l2 t330 t333 y352 t342 a1_0 a1_1 a1_2 l1_3) = some r := by first | (rw [hy352]; with_reducible exact H) | (have H2_ := (Option.bind_some _ _).symm.trans H; rw [hy352]; with_reducible exact H2_) | (have H2_ := (Option.bind_some _ _).symm.trans H; with_reducible exact H2_) | with_reducible exact H | (rw [hy352]; exact H) | exact H
                      have Ny352 := Aside0.mk hy352
                      clear hy352
                      have H' := Aside0.mk H
                      clear H
                      obtain ⟨Ao43, co43, eo43⟩ := Kd.V_slice HO_10.out
                      subst eo43
                      try go_wp2_with (first | ((with_reducible refine gate_callee (f := 13) rfl ?_); refine goesL_ (some 43) rfl rfl Try.func13 (by kernel_rfl) rfl #[.slice Ao43 x10_2.length co43] rfl (by (try simp only [List.map_toArray, List.map_cons, List.map_nil]); first | done | rfl | (simp only [List.length_drop, List.length_take]; rfl)) ?_; (with_reducible refine (queue_First.calls _ _ x10_2 t336 t337 t338 t339 t342 true _ ?side1 ?side2 A18.out).mono ?_); (case side1 => repeat (first | exact (Kd.V_reads' HO_10.out).2.2 | (with_reducible refine Kd.C_alloc ?_ _) | (with_reducible refine Kd.C_drewN ?_ _) | (with_reducible refine Kd.C_drew ?_))); (case side2 => exact (Kd.V_reads' HO_10.out).2.1); rintro e w44 ⟨v340, v343, rfl, ho0, ho1, hb⟩; refine ⟨_, rfl, ?_⟩; have n0_ := Aside0.mk (Kd.V_below (by (with_reducible repeat (first | apply Kd.V_alloc | apply Kd.V_drewN | apply Kd.V_drew)); exact HO_7.out) hb); have n1_ := Aside0.mk (Kd.V_below (by (with_reducible repeat (first | apply Kd.V_alloc | apply Kd.V_drewN | apply Kd.V_drew)); exact HO_8.out) hb); have n2_ := Aside0.mk (Kd.N_below (by (with_reducible repeat (first | apply Kd.N_alloc | apply Kd.N_drewN | apply Kd.N_drew)); exact HO_9.out) hb); have n3_ := Aside0.mk (Kd.V_below (by (with_reducible repeat (first | apply Kd.V_alloc | apply Kd.V_drewN | apply Kd.V_drew)); exact HO_10.out) hb); have n4_ := Aside0.mk (Kd.V_lower (Kd.V_mono (ok' := fun k_ => some k_ ≠ (u9 : Value).ownBlock ∧ k_ ≠ gb327) ho0 (fun k_ hk_ => ⟨(Kd.fresh' (Kd.N_lt (by (with_reducible repeat (first | apply Kd.N_alloc | apply Kd.N_drewN | apply Kd.N_drew)); exact HO_9.out)) k_ hk_), (Kd.freshB (g := gb327) (o := .cells #[.int .i64 a1_0, .int .i64 a1_1, .int .i64 a1_2, .slice A1_3 l1_3.length c1_3] 25 (0, 0)) (by (with_reducible repeat (first | refine blk_drewN ?_ _ | refine blk_drew ?_ | refine blk_alloc ?_ _)); exact BK327.out) k_ hk_)⟩)) (below_size (by repeat (first | (with_reducible first | exact HB.out | apply below_alloc | apply pw_below_drewN | apply below_drew1 | refine below_set ?_ GE327.out) | exact HB.out)))); have n5_ := Aside0.mk (Kd.V_lower (Kd.V_mono (ok' := fun k_ => some k_ ≠ (u9 : Value).ownBlock ∧ k_ ≠ gb327) ho1 (fun k_ hk_ => ⟨(Kd.fresh' (Kd.N_lt (by (with_reducible repeat (first | apply Kd.N_alloc | apply Kd.N_drewN | apply Kd.N_drew)); exact HO_9.out)) k_ hk_), (Kd.freshB (g := gb327) (o := .cells #[.int .i64 a1_0, .int .i64 a1_1, .int .i64 a1_2, .slice A1_3 l1_3.length c1_3] 25 (0, 0)) (by (with_reducible repeat (first | refine blk_drewN ?_ _ | refine blk_drew ?_ | refine blk_alloc ?_ _)); exact BK327.out) k_ hk_)⟩)) (below_size (by repeat (first | (with_reducible first | exact HB.out | apply below_alloc | apply pw_below_drewN | apply below_drew1 | refine below_set ?_ GE327.out) | exact HB.out)))); have n6_ := Aside0.mk (blk_below (g := gb327) (o := .cells #[.int .i64 a1_0, .int .i64 a1_1, .int .i64 a1_2, .slice A1_3 l1_3.length c1_3] 25 (0, 0)) (by (with_reducible repeat (first | refine blk_drewN ?_ _ | refine blk_drew ?_ | refine blk_alloc ?_ _)); exact BK327.out) hb); have n7_ := Aside0.mk (below_step (by repeat (first | (with_reducible first | exact HB.out | apply below_alloc | apply pw_below_drewN | apply below_drew1 | refine below_set ?_ GE327.out) | exact HB.out)) hb); clear HO_7; clear HO_8; clear HO_9; clear HO_10; clear BK327; clear HB; have HO_7 := n0_; have HO_8 := n1_; have HO_9 := n2_; have HO_10 := n3_; have HO341 := n4_; have HO344 := n5_; have BK327 := n6_; have HB := n7_; clear n0_ n1_ n2_ n3_ n4_ n5_ n6_ n7_; (try clear hb); (try clear hb2); (try clear hk); (try clear hi); (try clear ho0); (try clear ho1)) | ((with_reducible refine gate_dst (N := 11) rfl ?_); (try (refine gate_guard (by rfl) ?_; dsimp only)); refine box_event ?hg (N := 11) ?hd (cs := #[.int .i64 0, .int .i64 0, .int .i64 0, .slice none 0 0]) (t := 25) ?hr ?_; (case hd => rfl); (case hg => rfl); (case hr => first | (go_simp; done) | (go_simp; rfl)); intro gb346 hg w45 hbox hb; have n0_ := Aside0.mk (Kd.V_below (Kd.V_elderB (by (with_reducible repeat (first | apply Kd.V_alloc | apply Kd.V_drewN | apply Kd.V_drew)); exact HO_7.out) gb346 (Nat.le_of_eq hg.symm)) hb); have n1_ := Aside0.mk (Kd.V_below (Kd.V_elderB (by (with_reducible repeat (first | apply Kd.V_alloc | apply Kd.V_drewN | apply Kd.V_drew)); exact HO_8.out) gb346 (Nat.le_of_eq hg.symm)) hb); have n2_ := Aside0.mk (Kd.N_below (Kd.N_elderB (by (with_reducible repeat (first | apply Kd.N_alloc | apply Kd.N_drewN | apply Kd.N_drew)); exact HO_9.out) gb346 (Nat.le_of_eq hg.symm)) hb); have n3_ := Aside0.mk (Kd.V_below (Kd.V_elderB (by (with_reducible repeat (first | apply Kd.V_alloc | apply Kd.V_drewN | apply Kd.V_drew)); exact HO_10.out) gb346 (Nat.le_of_eq hg.symm)) hb); have n4_ := Aside0.mk (Kd.V_below (Kd.V_elderB (by (with_reducible repeat (first | apply Kd.V_alloc | apply Kd.V_drewN | apply Kd.V_drew)); exact HO341.out) gb346 (Nat.le_of_eq hg.symm)) hb); have n5_ := Aside0.mk (Kd.V_below (Kd.V_elderB (by (with_reducible repeat (first | apply Kd.V_alloc | apply Kd.V_drewN | apply Kd.V_drew)); exact HO344.out) gb346 (Nat.le_of_eq hg.symm)) hb); have n6_ := Aside0.mk (blk_below (g := gb327) (o := .cells #[.int .i64 a1_0, .int .i64 a1_1, .int .i64 a1_2, .slice A1_3 l1_3.length c1_3] 25 (0, 0)) (by (with_reducible repeat (first | refine blk_drewN ?_ _ | refine blk_drew ?_ | refine blk_alloc ?_ _)); exact BK327.out) hb); have n7_ := Aside0.mk (below_step (by repeat (first | (with_reducible first | exact HB.out | apply below_alloc | apply pw_below_drewN | apply below_drew1 | refine below_set ?_ GE327.out) | exact HB.out)) hb); have n8_ := Aside0.mk (hbox); have n9_ := Aside0.mk ((by rw [hg]; exact (below_size (by repeat (first | (with_reducible first | exact HB.out | apply below_alloc | apply pw_below_drewN | apply below_drew1 | refine below_set ?_ GE327.out) | exact HB.out))) : w.heap.size ≤ gb346)); have n10_ := Aside0.mk ((by rw [hg]; exact (below_size (by repeat (first | (with_reducible first | exact HB.out | apply below_alloc | apply pw_below_drewN | apply below_drew1 | refine below_set ?_ GE327.out) | exact HB.out))) : w.heap.size ≤ gb346)); have n11_ := Aside0.mk ((by rw [hg]; exact Nat.ne_of_lt (blk_lt (g := gb327) (o := .cells #[.int .i64 a1_0, .int .i64 a1_1, .int .i64 a1_2, .slice A1_3 l1_3.length c1_3] 25 (0, 0)) (by (with_reducible repeat (first | refine blk_drewN ?_ _ | refine blk_drew ?_ | refine blk_alloc ?_ _)); exact BK327.out)) : gb327 ≠ gb346)); have n12_ := Aside0.mk ((by rw [hg]; exact Nat.ne_of_gt (blk_lt (g := gb327) (o := .cells #[.int .i64 a1_0, .int .i64 a1_1, .int .i64 a1_2, .slice A1_3 l1_3.length c1_3] 25 (0, 0)) (by (with_reducible repeat (first | refine blk_drewN ?_ _ | refine blk_drew ?_ | refine blk_alloc ?_ _)); exact BK327.out)) : gb346 ≠ gb327)); clear HO_7; clear HO_8; clear HO_9; clear HO_10; clear HO341; clear HO344; clear BK327; clear HB; have HO_7 := n0_; have HO_8 := n1_; have HO_9 := n2_; have HO_10 := n3_; have HO341 := n4_; have HO344 := n5_; have BK327 := n6_; have HB := n7_; have BK346 := n8_; have GW346 := n9_; have GE346 := n10_; have NB327_346 := n11_; have NB346_327 := n12_; clear n0_ n1_ n2_ n3_ n4_ n5_ n6_ n7_ n8_ n9_ n10_ n11_ n12_; clear hb hbox hg; have hnb46 := NB346_327.out; have hnc46 := NB327_346.out; have hcz47_0 : w45.cell? ⟨gb346, 0, none⟩ = some (.int .i64 0) := (blk_cell BK346.out 0).trans rfl; have hcz47_1 : w45.cell? ⟨gb346, 1, none⟩ = some (.int .i64 0) := (blk_cell BK346.out 1).trans rfl; have hcz47_2 : w45.cell? ⟨gb346, 2, none⟩ = some (.int .i64 0) := (blk_cell BK346.out 2).trans rfl; have hcz47_3 : w45.cell? ⟨gb346, 3, none⟩ = some (.slice none 0 0) := (blk_cell BK346.out 3).trans rfl; have hfz47_0 := blk_frozen BK346.out 0; have hfz47_1 := blk_frozen BK346.out 1; have hfz47_2 := blk_frozen BK346.out 2; have hfz47_3 := blk_frozen BK346.out 3; obtain ⟨Ao48, co48, eo48⟩ := Kd.V_slice HO341.out; subst eo48))
                      have n0_ : Aside0 (Kd.V k25 25 ((((w45.setCell ⟨gb346, 0, none⟩ (.int .i64 t336)).setCell ⟨gb346, 1, none⟩ (.int .i64 t337)).setCell ⟨gb346, 2, none⟩ (.int .i64 t338)).setCell ⟨gb346, 3, none⟩ (.slice Ao48 t339.length co48)) w.heap.size (fun k_ => some k_ ≠ (u9 : Value).ownBlock ∧ k_ ≠ gb327 ∧ k_ ≠ gb346) (.slice Ao16 t330.length co16) t330) := ⟨by (with_reducible repeat (first | apply Kd.V_alloc | apply Kd.V_drewN | apply Kd.V_drew)); exact Kd.V_mono (Kd.V_far (p := ⟨gb346, 3, none⟩) (Kd.V_far (p := ⟨gb346, 2, none⟩) (Kd.V_far (p := ⟨gb346, 1, none⟩) (Kd.V_far (p := ⟨gb346, 0, none⟩) (Kd.V_mono HO_7.out (fun k_ hk => (⟨hk, hk.2⟩ : _ ∧ k_ ≠ gb346))) (fun _ hk => hk.2) (.int .i64 t336)) (fun _ hk => hk.2) (.int .i64 t337)) (fun _ hk => hk.2) (.int .i64 t338)) (fun _ hk => hk.2) (.slice Ao48 t339.length co48)) (fun _ hk => ⟨hk.1.1.1, ⟨hk.1.1.2, hk.1.2⟩⟩)⟩
                      have n1_ : Aside0 (Kd.V k25 25 ((((w45.setCell ⟨gb346, 0, none⟩ (.int .i64 t336)).setCell ⟨gb346, 1, none⟩ (.int .i64 t337)).setCell ⟨gb346, 2, none⟩ (.int .i64 t338)).setCell ⟨gb346, 3, none⟩ (.slice Ao48 t339.length co48)) w.heap.size (fun k_ => some k_ ≠ (u9 : Value).ownBlock ∧ k_ ≠ gb327 ∧ k_ ≠ gb346) v334 t333) := ⟨by (with_reducible repeat (first | apply Kd.V_alloc | apply Kd.V_drewN | apply Kd.V_drew)); exact Kd.V_mono (Kd.V_far (p := ⟨gb346, 3, none⟩) (Kd.V_far (p := ⟨gb346, 2, none⟩) (Kd.V_far (p := ⟨gb346, 1, none⟩) (Kd.V_far (p := ⟨gb346, 0, none⟩) (Kd.V_mono HO_8.out (fun k_ hk => (⟨hk, hk.2⟩ : _ ∧ k_ ≠ gb346))) (fun _ hk => hk.2) (.int .i64 t336)) (fun _ hk => hk.2) (.int .i64 t337)) (fun _ hk => hk.2) (.int .i64 t338)) (fun _ hk => hk.2) (.slice Ao48 t339.length co48)) (fun _ hk => ⟨hk.1.1.1, ⟨hk.1.1.2, hk.1.2⟩⟩)⟩
                      have n2_ : Aside0 (Kd.N k25 25 ((((w45.setCell ⟨gb346, 0, none⟩ (.int .i64 t336)).setCell ⟨gb346, 1, none⟩ (.int .i64 t337)).setCell ⟨gb346, 2, none⟩ (.int .i64 t338)).setCell ⟨gb346, 3, none⟩ (.slice Ao48 t339.length co48)) w.heap.size (fun k_ => k_ ≠ gb327 ∧ k_ ≠ gb346) u9 x9_2) := ⟨by (with_reducible repeat (first | apply Kd.N_alloc | apply Kd.N_drewN | apply Kd.N_drew)); exact Kd.N_mono (Kd.N_far (p := ⟨gb346, 3, none⟩) (Kd.N_far (p := ⟨gb346, 2, none⟩) (Kd.N_far (p := ⟨gb346, 1, none⟩) (Kd.N_far (p := ⟨gb346, 0, none⟩) (Kd.N_mono HO_9.out (fun k_ hk => (⟨hk, hk.2⟩ : _ ∧ k_ ≠ gb346))) (fun _ hk => hk.2) (.int .i64 t336)) (fun _ hk => hk.2) (.int .i64 t337)) (fun _ hk => hk.2) (.int .i64 t338)) (fun _ hk => hk.2) (.slice Ao48 t339.length co48)) (fun _ hk => ⟨hk.1.1, hk.1.2⟩)⟩
                      have n3_ : Aside0 (Kd.V k25 25 ((((w45.setCell ⟨gb346, 0, none⟩ (.int .i64 t336)).setCell ⟨gb346, 1, none⟩ (.int .i64 t337)).setCell ⟨gb346, 2, none⟩ (.int .i64 t338)).setCell ⟨gb346, 3, none⟩ (.slice Ao48 t339.length co48)) w.heap.size (fun k_ => some k_ ≠ (u9 : Value).ownBlock ∧ k_ ≠ gb327 ∧ k_ ≠ gb346) (.slice Ao43 x10_2.length co43) x10_2) := ⟨by (with_reducible repeat (first | apply Kd.V_alloc | apply Kd.V_drewN | apply Kd.V_drew)); exact Kd.V_mono (Kd.V_far (p := ⟨gb346, 3, none⟩) (Kd.V_far (p := ⟨gb346, 2, none⟩) (Kd.V_far (p := ⟨gb346, 1, none⟩) (Kd.V_far (p := ⟨gb346, 0, none⟩) (Kd.V_mono HO_10.out (fun k_ hk => (⟨hk, hk.2⟩ : _ ∧ k_ ≠ gb346))) (fun _ hk => hk.2) (.int .i64 t336)) (fun _ hk => hk.2) (.int .i64 t337)) (fun _ hk => hk.2) (.int .i64 t338)) (fun _ hk => hk.2) (.slice Ao48 t339.length co48)) (fun _ hk => ⟨hk.1.1.1, ⟨hk.1.1.2, hk.1.2⟩⟩)⟩
                      have n4_ : Aside0 (Kd.V (Kd.int .u8) 5 ((((w45.setCell ⟨gb346, 0, none⟩ (.int .i64 t336)).setCell ⟨gb346, 1, none⟩ (.int .i64 t337)).setCell ⟨gb346, 2, none⟩ (.int .i64 t338)).setCell ⟨gb346, 3, none⟩ (.slice Ao48 t339.length co48)) w.heap.size (fun k_ => some k_ ≠ (u9 : Value).ownBlock ∧ k_ ≠ gb327 ∧ k_ ≠ gb346) (.slice Ao48 t339.length co48) t339) := ⟨by (with_reducible repeat (first | apply Kd.V_alloc | apply Kd.V_drewN | apply Kd.V_drew)); exact Kd.V_mono (Kd.V_far (p := ⟨gb346, 3, none⟩) (Kd.V_far (p := ⟨gb346, 2, none⟩) (Kd.V_far (p := ⟨gb346, 1, none⟩) (Kd.V_far (p := ⟨gb346, 0, none⟩) (Kd.V_mono HO341.out (fun k_ hk => (⟨hk, hk.2⟩ : _ ∧ k_ ≠ gb346))) (fun _ hk => hk.2) (.int .i64 t336)) (fun _ hk => hk.2) (.int .i64 t337)) (fun _ hk => hk.2) (.int .i64 t338)) (fun _ hk => hk.2) (.slice Ao48 t339.length co48)) (fun _ hk => ⟨hk.1.1.1, ⟨hk.1.1.2, hk.1.2⟩⟩)⟩
                      have n5_ : Aside0 (Kd.V k25 25 ((((w45.setCell ⟨gb346, 0, none⟩ (.int .i64 t336)).setCell ⟨gb346, 1, none⟩ (.int .i64 t337)).setCell ⟨gb346, 2, none⟩ (.int .i64 t338)).setCell ⟨gb346, 3, none⟩ (.slice Ao48 t339.length co48)) w.heap.size (fun k_ => some k_ ≠ (u9 : Value).ownBlock ∧ k_ ≠ gb327 ∧ k_ ≠ gb346) v343 t342) := ⟨by (with_reducible repeat (first | apply Kd.V_alloc | apply Kd.V_drewN | apply Kd.V_drew)); exact Kd.V_mono (Kd.V_far (p := ⟨gb346, 3, none⟩) (Kd.V_far (p := ⟨gb346, 2, none⟩) (Kd.V_far (p := ⟨gb346, 1, none⟩) (Kd.V_far (p := ⟨gb346, 0, none⟩) (Kd.V_mono HO344.out (fun k_ hk => (⟨hk, hk.2⟩ : _ ∧ k_ ≠ gb346))) (fun _ hk => hk.2) (.int .i64 t336)) (fun _ hk => hk.2) (.int .i64 t337)) (fun _ hk => hk.2) (.int .i64 t338)) (fun _ hk => hk.2) (.slice Ao48 t339.length co48)) (fun _ hk => ⟨hk.1.1.1, ⟨hk.1.1.2, hk.1.2⟩⟩)⟩
                      have n6_ : Aside0 (((((w45.setCell ⟨gb346, 0, none⟩ (.int .i64 t336)).setCell ⟨gb346, 1, none⟩ (.int .i64 t337)).setCell ⟨gb346, 2, none⟩ (.int .i64 t338)).setCell ⟨gb346, 3, none⟩ (.slice Ao48 t339.length co48)).heap[gb327]? = some (.cells #[.int .i64 a1_0, .int .i64 a1_1, .int .i64 a1_2, .slice A1_3 l1_3.length c1_3] 25 (0, 0))) := ⟨by (with_reducible repeat (first | refine blk_drewN ?_ _ | refine blk_drew ?_ | refine blk_alloc ?_ _)); refine blk_far ?_ NB327_346.out _; (with_reducible repeat (first | refine blk_drewN ?_ _ | refine blk_drew ?_ | refine blk_alloc ?_ _)); refine blk_far ?_ NB327_346.out _; (with_reducible repeat (first | refine blk_drewN ?_ _ | refine blk_drew ?_ | refine blk_alloc ?_ _)); refine blk_far ?_ NB327_346.out _; (with_reducible repeat (first | refine blk_drewN ?_ _ | refine blk_drew ?_ | refine blk_alloc ?_ _)); refine blk_far ?_ NB327_346.out _; (with_reducible repeat (first | refine blk_drewN ?_ _ | refine blk_drew ?_ | refine blk_alloc ?_ _)); exact BK327.out⟩
                      have n7_ : Aside0 (((((w45.setCell ⟨gb346, 0, none⟩ (.int .i64 t336)).setCell ⟨gb346, 1, none⟩ (.int .i64 t337)).setCell ⟨gb346, 2, none⟩ (.int .i64 t338)).setCell ⟨gb346, 3, none⟩ (.slice Ao48 t339.length co48)).heap[gb346]? = some (.cells #[.int .i64 t336, .int .i64 t337, .int .i64 t338, .slice Ao48 t339.length co48] 25 (0, 0))) := ⟨by (with_reducible repeat (first | refine blk_drewN ?_ _ | refine blk_drew ?_ | refine blk_alloc ?_ _)); refine blk_put (cs := #[.int .i64 t336, .int .i64 t337, .int .i64 t338, .slice none 0 0]) ?_ 3 _ rfl; (with_reducible repeat (first | refine blk_drewN ?_ _ | refine blk_drew ?_ | refine blk_alloc ?_ _)); refine blk_put (cs := #[.int .i64 t336, .int .i64 t337, .int .i64 0, .slice none 0 0]) ?_ 2 _ rfl; (with_reducible repeat (first | refine blk_drewN ?_ _ | refine blk_drew ?_ | refine blk_alloc ?_ _)); refine blk_put (cs := #[.int .i64 t336, .int .i64 0, .int .i64 0, .slice none 0 0]) ?_ 1 _ rfl; (with_reducible repeat (first | refine blk_drewN ?_ _ | refine blk_drew ?_ | refine blk_alloc ?_ _)); refine blk_put (cs := #[.int .i64 0, .int .i64 0, .int .i64 0, .slice none 0 0]) ?_ 0 _ rfl; (with_reducible repeat (first | refine blk_drewN ?_ _ | refine blk_drew ?_ | refine blk_alloc ?_ _)); exact BK346.out⟩
                      have n8_ : Aside0 (Below w.heap.size w ((((w45.setCell ⟨gb346, 0, none⟩ (.int .i64 t336)).setCell ⟨gb346, 1, none⟩ (.int .i64 t337)).setCell ⟨gb346, 2, none⟩ (.int .i64 t338)).setCell ⟨gb346, 3, none⟩ (.slice Ao48 t339.length co48))) := ⟨by repeat (first | (with_reducible first | exact HB.out | apply below_alloc | apply pw_below_drewN | apply below_drew1 | refine below_set ?_ GE327.out | refine below_set ?_ GE346.out) | exact HB.out)⟩
                      (try clear HO_7)
                      (try clear HO_8)
                      (try clear HO_9)
                      (try clear HO_10)
                      (try clear HO341)
                      (try clear HO344)
                      (try clear BK327)
                      (try clear BK346)
                      (try clear HB)
                      generalize ((((w45.setCell ⟨gb346, 0, none⟩ (.int .i64 t336)).setCell ⟨gb346, 1, none⟩ (.int .i64 t337)).setCell ⟨gb346, 2, none⟩ (.int .i64 t338)).setCell ⟨gb346, 3, none⟩ (.slice Ao48 t339.length co48)) = w49 at n0_ n1_ n2_ n3_ n4_ n5_ n6_ n7_ n8_ ⊢
                      have HO_7 := n0_
                      have HO_8 := n1_
                      have HO_9 := n2_
                      have HO_10 := n3_
                      have HO341 := n4_
                      have HO344 := n5_
                      have BK327 := n6_
                      have BK346 := n7_
                      have HB := n8_
                      clear n0_ n1_ n2_ n3_ n4_ n5_ n6_ n7_ n8_
                      have n0_ := Aside0.mk (Kd.V_drew HO_7.out)
                      have n1_ := Aside0.mk (Kd.V_drew HO_8.out)
                      have n2_ := Aside0.mk (Kd.N_drew HO_9.out)
                      have n3_ := Aside0.mk (Kd.V_drew HO_10.out)
                      have n4_ := Aside0.mk (Kd.V_drew HO341.out)
                      have n5_ := Aside0.mk (Kd.V_drew HO344.out)
                      have n6_ := Aside0.mk (blk_drew BK327.out)
                      have n7_ := Aside0.mk (blk_drew BK346.out)
                      have n8_ := Aside0.mk (below_drew1 HB.out)
                      clear HO_7
                      clear HO_8
                      clear HO_9
                      clear HO_10
                      clear HO341
                      clear HO344
                      clear BK327
                      clear BK346
                      clear HB
                      have HO_7 := n0_
                      have HO_8 := n1_
                      have HO_9 := n2_
                      have HO_10 := n3_
                      have HO341 := n4_
                      have HO344 := n5_
                      have BK327 := n6_
                      have BK346 := n7_
                      have HB := n8_
                      clear n0_ n1_ n2_ n3_ n4_ n5_ n6_ n7_ n8_
                      obtain ⟨Ao51, co51, eo51⟩ := Kd.N_slice HO_9.out
                      (first | subst eo51 | (injection eo51 with f1_ f2_ f3_; have f4_ := f1_.symm; have f5_ := f3_.symm; clear f1_ f2_ f3_; subst f4_; subst f5_))
                      obtain ⟨Ao52, co52, eo52⟩ := Kd.V_slice HO344.out
                      (first | subst eo52 | (injection eo52 with f1_ f2_ f3_; have f4_ := f1_.symm; have f5_ := f3_.symm; clear f1_ f2_ f3_; subst f4_; subst f5_))
                      refine start_ (n := 21) (S := fun w' => True) (ds := []) #[false, false, false, false, false, false, false, false, false, false, false, false, false, false, false, false, false, false, false, false, false] (by kernel_rfl) rfl rfl trivial (fun hHeld => ?_); refine with_tabW affidavitlaw20_QueueOrder.tab11 affidavitlaw20_QueueOrder.bits11 (fun HT_ HW_ => ?_)
                      generalize w49.drew = w50 at HO_7 HO_8 HO_9 HO_10 HO341 HO344 BK327 BK346 HB hHeld ⊢
                      refine pure_ (i := 0) (N := some 49) (v := ?_) (a' := ?_) #[true, false, false, false, false, false, false, false, false, false, false, false, false, false, false, false, false, false, false, false, false] rfl rfl (any_of HT_.out (by kernel_rfl)) (fun _ _ _ h => h) (Or.inl ⟨by rfl, ?_⟩) ?_ ?_
                      rotate_left
                      · intro w'
                        go_simp
                        with_reducible rfl
                      rotate_left
                      · simp only [Act.put, List.setIfInBounds_toArray, List.set_cons_zero, List.set_cons_succ, i64_w, i32_w]
                        rfl
                      refine pure_ (i := 1) (N := some 50) (v := ?_) (a' := ?_) #[true, true, false, false, false, false, false, false, false, false, false, false, false, false, false, false, false, false, false, false, false] rfl rfl (any_of HT_.out (by kernel_rfl)) (fun _ _ _ h => h) (Or.inl ⟨by rfl, ?_⟩) ?_ ?_
                      rotate_left
                      · intro w'
                        go_simp
                        with_reducible rfl
                      rotate_left
                      · simp only [Act.put, List.setIfInBounds_toArray, List.set_cons_zero, List.set_cons_succ, i64_w, i32_w]
                        rfl
                      refine pure_ (i := 2) (N := some 51) (v := ?_) (a' := ?_) #[true, true, true, false, false, false, false, false, false, false, false, false, false, false, false, false, false, false, false, false, false] rfl rfl (any_of HT_.out (by kernel_rfl)) (fun _ _ _ h => h) (Or.inl ⟨by rfl, ?_⟩) ?_ ?_
                      rotate_left
                      · intro w'
                        go_simp
                        with_reducible rfl
                      rotate_left
                      · simp only [Act.put, List.setIfInBounds_toArray, List.set_cons_zero, List.set_cons_succ, i64_w, i32_w]
                        rfl
                      refine pure_ (i := 3) (N := some 52) (v := ?_) (a' := ?_) #[true, true, true, true, false, false, false, false, false, false, false, false, false, false, false, false, false, false, false, false, false] rfl rfl (any_of HT_.out (by kernel_rfl)) (fun _ _ _ h => h) (Or.inl ⟨by rfl, ?_⟩) ?_ ?_
                      rotate_left
                      · intro w'
                        go_simp
                        with_reducible rfl
                      rotate_left
                      · simp only [Act.put, List.setIfInBounds_toArray, List.set_cons_zero, List.set_cons_succ, i64_w, i32_w]
                        rfl
                      refine pure_ (i := 4) (N := some 53) (v := undef) (a' := ?_) #[true, true, true, true, true, false, false, false, false, false, false, false, false, false, false, false, false, false, false, false, false] rfl rfl (any_of HT_.out (by kernel_rfl)) (fun _ _ _ h => h) (Or.inr ⟨by rfl, rfl⟩) ?_ ?_
                      rotate_left
                      · simp only [Act.put, List.setIfInBounds_toArray, List.set_cons_zero, List.set_cons_succ, i64_w, i32_w]
                        rfl
                      refine pure_ (i := 5) (N := some 54) (v := undef) (a' := ?_) #[true, true, true, true, true, true, false, false, false, false, false, false, false, false, false, false, false, false, false, false, false] rfl rfl (any_of HT_.out (by kernel_rfl)) (fun _ _ _ h => h) (Or.inr ⟨by rfl, rfl⟩) ?_ ?_
                      rotate_left
                      · simp only [Act.put, List.setIfInBounds_toArray, List.set_cons_zero, List.set_cons_succ, i64_w, i32_w]
                        rfl
                      refine pure_ (i := 6) (N := some 55) (v := undef) (a' := ?_) #[true, true, true, true, true, true, true, false, false, false, false, false, false, false, false, false, false, false, false, false, false] rfl rfl (any_of HT_.out (by kernel_rfl)) (fun _ _ _ h => h) (Or.inr ⟨by rfl, rfl⟩) ?_ ?_
                      rotate_left
                      · simp only [Act.put, List.setIfInBounds_toArray, List.set_cons_zero, List.set_cons_succ, i64_w, i32_w]
                        rfl
                      refine pure_ (i := 7) (N := some 56) (v := undef) (a' := ?_) #[true, true, true, true, true, true, true, true, false, false, false, false, false, false, false, false, false, false, false, false, false] rfl rfl (any_of HT_.out (by kernel_rfl)) (fun _ _ _ h => h) (Or.inr ⟨by rfl, rfl⟩) ?_ ?_
                      rotate_left
                      · simp only [Act.put, List.setIfInBounds_toArray, List.set_cons_zero, List.set_cons_succ, i64_w, i32_w]
                        rfl
                      refine pure_ (i := 8) (N := some 57) (v := undef) (a' := ?_) #[true, true, true, true, true, true, true, true, true, false, false, false, false, false, false, false, false, false, false, false, false] rfl rfl (any_of HT_.out (by kernel_rfl)) (fun _ _ _ h => h) (Or.inr ⟨by rfl, rfl⟩) ?_ ?_
                      rotate_left
                      · simp only [Act.put, List.setIfInBounds_toArray, List.set_cons_zero, List.set_cons_succ, i64_w, i32_w]
                        rfl
                      refine pure_ (i := 9) (N := some 58) (v := undef) (a' := ?_) #[true, true, true, true, true, true, true, true, true, true, false, false, false, false, false, false, false, false, false, false, false] rfl rfl (any_of HT_.out (by kernel_rfl)) (fun _ _ _ h => h) (Or.inr ⟨by rfl, rfl⟩) ?_ ?_
                      rotate_left
                      · simp only [Act.put, List.setIfInBounds_toArray, List.set_cons_zero, List.set_cons_succ, i64_w, i32_w]
                        rfl
                      refine pure_ (i := 10) (N := some 59) (v := undef) (a' := ?_) #[true, true, true, true, true, true, true, true, true, true, true, false, false, false, false, false, false, false, false, false, false] rfl rfl (any_of HT_.out (by kernel_rfl)) (fun _ _ _ h => h) (Or.inr ⟨by rfl, rfl⟩) ?_ ?_
                      rotate_left
                      · simp only [Act.put, List.setIfInBounds_toArray, List.set_cons_zero, List.set_cons_succ, i64_w, i32_w]
                        rfl
                      refine pure_ (i := 11) (N := some 60) (v := undef) (a' := ?_) #[true, true, true, true, true, true, true, true, true, true, true, true, false, false, false, false, false, false, false, false, false] rfl rfl (any_of HT_.out (by kernel_rfl)) (fun _ _ _ h => h) (Or.inr ⟨by rfl, rfl⟩) ?_ ?_
                      rotate_left
                      · simp only [Act.put, List.setIfInBounds_toArray, List.set_cons_zero, List.set_cons_succ, i64_w, i32_w]
                        rfl
                      refine pure_ (i := 12) (N := some 61) (v := ?_) (a' := ?_) #[true, true, true, true, true, true, true, true, true, true, true, true, true, false, false, false, false, false, false, false, false] rfl rfl (any_of HT_.out (by kernel_rfl)) (fun _ _ _ h => h) (Or.inl ⟨by rfl, ?_⟩) ?_ ?_
                      rotate_left
                      · intro w'
                        go_simp
                        with_reducible rfl
                      rotate_left
                      · simp only [Act.put, List.setIfInBounds_toArray, List.set_cons_zero, List.set_cons_succ, i64_w, i32_w]
                        rfl
                      refine pure_ (i := 13) (N := some 62) (v := ?_) (a' := ?_) #[true, true, true, true, true, true, true, true, true, true, true, true, true, true, false, false, false, false, false, false, false] rfl rfl (any_of HT_.out (by kernel_rfl)) (fun _ _ _ h => h) (Or.inl ⟨by rfl, ?_⟩) ?_ ?_
                      rotate_left
                      · intro w'
                        go_simp
                        with_reducible rfl
                      rotate_left
                      · simp only [Act.put, List.setIfInBounds_toArray, List.set_cons_zero, List.set_cons_succ, i64_w, i32_w]
                        rfl
                      refine pure_ (i := 14) (N := some 63) (v := ?_) (a' := ?_) #[true, true, true, true, true, true, true, true, true, true, true, true, true, true, true, false, false, false, false, false, false] rfl rfl (any_of HT_.out (by kernel_rfl)) (fun _ _ _ h => h) (Or.inl ⟨by rfl, ?_⟩) ?_ ?_
                      rotate_left
                      · intro w'
                        go_simp
                        with_reducible rfl
                      rotate_left
                      · simp only [Act.put, List.setIfInBounds_toArray, List.set_cons_zero, List.set_cons_succ, i64_w, i32_w]
                        rfl
                      refine pure_ (i := 15) (N := some 64) (v := ?_) (a' := ?_) #[true, true, true, true, true, true, true, true, true, true, true, true, true, true, true, true, false, false, false, false, false] rfl rfl (any_of HT_.out (by kernel_rfl)) (fun _ _ _ h => h) (Or.inl ⟨by rfl, ?_⟩) ?_ ?_
                      rotate_left
                      · intro w'
                        go_simp
                        with_reducible rfl
                      rotate_left
                      · simp only [Act.put, List.setIfInBounds_toArray, List.set_cons_zero, List.set_cons_succ, i64_w, i32_w]
                        rfl
                      refine pure_ (i := 16) (N := some 65) (v := ?_) (a' := ?_) #[true, true, true, true, true, true, true, true, true, true, true, true, true, true, true, true, true, false, false, false, false] rfl rfl (any_of HT_.out (by kernel_rfl)) (fun _ _ _ h => h) (Or.inl ⟨by rfl, ?_⟩) ?_ ?_
                      rotate_left
                      · intro w'
                        go_simp
                        with_reducible rfl
                      rotate_left
                      · simp only [Act.put, List.setIfInBounds_toArray, List.set_cons_zero, List.set_cons_succ, i64_w, i32_w]
                        rfl
                      refine pure_ (i := 17) (N := some 66) (v := ?_) (a' := ?_) #[true, true, true, true, true, true, true, true, true, true, true, true, true, true, true, true, true, true, false, false, false] rfl rfl (any_of HT_.out (by kernel_rfl)) (fun _ _ _ h => h) (Or.inl ⟨by rfl, ?_⟩) ?_ ?_
                      rotate_left
                      · intro w'
                        go_simp
                        with_reducible rfl
                      rotate_left
                      · simp only [Act.put, List.setIfInBounds_toArray, List.set_cons_zero, List.set_cons_succ, i64_w, i32_w]
                        rfl
                      refine pure_ (i := 18) (N := some 67) (v := ?_) (a' := ?_) #[true, true, true, true, true, true, true, true, true, true, true, true, true, true, true, true, true, true, true, false, false] rfl rfl (any_of HT_.out (by kernel_rfl)) (fun _ _ _ h => h) (Or.inl ⟨by rfl, ?_⟩) ?_ ?_
                      rotate_left
                      · intro w'
                        go_simp
                        with_reducible rfl
                      rotate_left
                      · simp only [Act.put, List.setIfInBounds_toArray, List.set_cons_zero, List.set_cons_succ, i64_w, i32_w]
                        rfl
                      refine pure_ (i := 19) (N := some 68) (v := ?_) (a' := ?_) #[true, true, true, true, true, true, true, true, true, true, true, true, true, true, true, true, true, true, true, true, false] rfl rfl (any_of HT_.out (by kernel_rfl)) (fun _ _ _ h => h) (Or.inl ⟨by rfl, ?_⟩) ?_ ?_
                      rotate_left
                      · intro w'
                        go_simp
                        with_reducible rfl
                      rotate_left
                      · simp only [Act.put, List.setIfInBounds_toArray, List.set_cons_zero, List.set_cons_succ, i64_w, i32_w]
                        rfl
                      refine pure_ (i := 20) (N := some 69) (v := ?_) (a' := ?_) #[true, true, true, true, true, true, true, true, true, true, true, true, true, true, true, true, true, true, true, true, true] rfl rfl (any_of HT_.out (by kernel_rfl)) (fun _ _ _ h => h) (Or.inl ⟨by rfl, ?_⟩) ?_ ?_
                      rotate_left
                      · intro w'
                        go_simp
                        with_reducible rfl
                      rotate_left
                      · simp only [Act.put, List.setIfInBounds_toArray, List.set_cons_zero, List.set_cons_succ, i64_w, i32_w]
                        rfl
                      refine done_ (done_of HT_.out (by kernel_rfl)) ?_
                      have hcz53_0 : w50.cell? ⟨gb346, 0, none⟩ = some (.int .i64 t336) := (blk_cell BK346.out 0).trans rfl
                      have hcz53_1 : w50.cell? ⟨gb346, 1, none⟩ = some (.int .i64 t337) := (blk_cell BK346.out 1).trans rfl
                      have hcz53_2 : w50.cell? ⟨gb346, 2, none⟩ = some (.int .i64 t338) := (blk_cell BK346.out 2).trans rfl
                      have hcz53_3 : w50.cell? ⟨gb346, 3, none⟩ = some (.slice Ao48 t339.length co48) := (blk_cell BK346.out 3).trans rfl
                      have hfz53_0 := blk_frozen BK346.out 0
                      have hfz53_1 := blk_frozen BK346.out 1
                      have hfz53_2 := blk_frozen BK346.out 2
                      have hfz53_3 := blk_frozen BK346.out 3
                      try go_wp2_with (first | ((with_reducible refine gate_builtin (b := .append) (xs := #[.tmp 70, .tmp 72]) rfl ?_); (try (refine gate_guard (by rfl) ?_; dsimp only)); at_builtin; refine Kd.N_append k25 (w0 := w) w.heap.size rfl (.tmp 70) (.tmp 72) 22 25 (.agg #[(.int .i64 0), (.int .i64 0), (.int .i64 0), (.slice none 0 0)]) 48 rfl Try.underlying22 info25 rfl (by decide) (by omega) (.slice Ao51 x9_2.length co51) x9_2 (⟨t336, t337, t338, t339⟩ : S25) [.int .i64 t336, .int .i64 t337, .int .i64 t338, .slice Ao48 t339.length co48] (fun k_ => k_ ≠ gb327 ∧ k_ ≠ gb346) (fun k_ => ((fun k_ => k_ ≠ gb327 ∧ k_ ≠ gb346)) k_ ∧ some k_ ≠ (.slice Ao51 x9_2.length co51 : Value).ownBlock) rfl rfl ?aP (fun _ hk => hk) ?aF ?aO ?aB ?aS ?aL ?_; (case aP => exact (k25_mkF _ _ (⟨t336, t337, t338, t339⟩ : S25) (Kd.V_reads' (Kd.V_mono (ok' := (fun k_ => ((fun k_ => k_ ≠ gb327 ∧ k_ ≠ gb346)) k_ ∧ some k_ ≠ (.slice Ao51 x9_2.length co51 : Value).ownBlock)) (HO341.out) (fun k_ hk => ⟨⟨hk.2.1, hk.2.2⟩, hk.1⟩))).2.1 (Kd.V_F (Kd.V_mono (ok' := (fun k_ => ((fun k_ => k_ ≠ gb327 ∧ k_ ≠ gb346)) k_ ∧ some k_ ≠ (.slice Ao51 x9_2.length co51 : Value).ownBlock)) (HO341.out) (fun k_ hk => ⟨⟨hk.2.1, hk.2.2⟩, hk.1⟩))))); (case aB => exact (by repeat (first | (with_reducible first | exact HB.out | apply below_alloc | apply pw_below_drewN | apply below_drew1 | refine below_set ?_ GE327.out | refine below_set ?_ GE346.out) | exact HB.out))); (case aF => exact (fun k_ hk => ⟨Kd.freshB (g := gb327) (o := .cells #[.int .i64 a1_0, .int .i64 a1_1, .int .i64 a1_2, .slice A1_3 l1_3.length c1_3] 25 (0, 0)) (by (with_reducible repeat (first | refine blk_drewN ?_ _ | refine blk_drew ?_ | refine blk_alloc ?_ _)); exact BK327.out) k_ hk, Kd.freshB (g := gb346) (o := .cells #[.int .i64 t336, .int .i64 t337, .int .i64 t338, .slice Ao48 t339.length co48] 25 (0, 0)) (by (with_reducible repeat (first | refine blk_drewN ?_ _ | refine blk_drew ?_ | refine blk_alloc ?_ _)); exact BK346.out) k_ hk⟩)); (case aO => exact (by (with_reducible repeat (first | apply Kd.N_alloc | apply Kd.N_drewN | apply Kd.N_drew)); exact HO_9.out)); (case aS => exact (below_size (by repeat (first | (with_reducible first | exact HB.out | apply below_alloc | apply pw_below_drewN | apply below_drew1 | refine below_set ?_ GE327.out | refine below_set ?_ GE346.out) | exact HB.out)))); (case aL => have := LMc42.out; omega); intro v353 w54 ho hb hg hat; rw [← Ny352.out] at ho; have n0_ := Aside0.mk (Kd.V_afterv (ok := (fun k_ => k_ ≠ gb327 ∧ k_ ≠ gb346)) (by (with_reducible repeat (first | apply Kd.V_alloc | apply Kd.V_drewN | apply Kd.V_drew)); exact Kd.V_mono HO_7.out (fun _ hk => ⟨⟨hk.2.1, hk.2.2⟩, hk.1⟩)) hg hat); have n1_ := Aside0.mk (Kd.V_afterv (ok := (fun k_ => k_ ≠ gb327 ∧ k_ ≠ gb346)) (by (with_reducible repeat (first | apply Kd.V_alloc | apply Kd.V_drewN | apply Kd.V_drew)); exact Kd.V_mono HO_8.out (fun _ hk => ⟨⟨hk.2.1, hk.2.2⟩, hk.1⟩)) hg hat); have n2_ := Aside0.mk (Kd.V_afterv (ok := (fun k_ => k_ ≠ gb327 ∧ k_ ≠ gb346)) (by (with_reducible repeat (first | apply Kd.V_alloc | apply Kd.V_drewN | apply Kd.V_drew)); exact Kd.V_mono HO_10.out (fun _ hk => ⟨⟨hk.2.1, hk.2.2⟩, hk.1⟩)) hg hat); have n3_ := Aside0.mk (blk_grown (g := gb327) (o := .cells #[.int .i64 a1_0, .int .i64 a1_1, .int .i64 a1_2, .slice A1_3 l1_3.length c1_3] 25 (0, 0)) (by (with_reducible repeat (first | refine blk_drewN ?_ _ | refine blk_drew ?_ | refine blk_alloc ?_ _)); exact BK327.out) hg (Kd.N_away HO_9.out (fun _ hk => hk.1))); have n4_ := Aside0.mk (Kd.V_afterv (ok := (fun k_ => k_ ≠ gb327 ∧ k_ ≠ gb346)) (by (with_reducible repeat (first | apply Kd.V_alloc | apply Kd.V_drewN | apply Kd.V_drew)); exact Kd.V_mono HO341.out (fun _ hk => ⟨⟨hk.2.1, hk.2.2⟩, hk.1⟩)) hg hat); have n5_ := Aside0.mk (Kd.V_afterv (ok := (fun k_ => k_ ≠ gb327 ∧ k_ ≠ gb346)) (by (with_reducible repeat (first | apply Kd.V_alloc | apply Kd.V_drewN | apply Kd.V_drew)); exact Kd.V_mono HO344.out (fun _ hk => ⟨⟨hk.2.1, hk.2.2⟩, hk.1⟩)) hg hat); have n6_ := Aside0.mk (blk_grown (g := gb346) (o := .cells #[.int .i64 t336, .int .i64 t337, .int .i64 t338, .slice Ao48 t339.length co48] 25 (0, 0)) (by (with_reducible repeat (first | refine blk_drewN ?_ _ | refine blk_drew ?_ | refine blk_alloc ?_ _)); exact BK346.out) hg (Kd.N_away HO_9.out (fun _ hk => hk.2))); have n7_ := Aside0.mk (hb); have n8_ := Aside0.mk (ho); clear HO_7; clear HO_8; clear HO_10; clear BK327; clear HO341; clear HO344; clear BK346; clear HB; clear HO_9; have HO_7 := n0_; have HO_8 := n1_; have HO_10 := n2_; have BK327 := n3_; have HO341 := n4_; have HO344 := n5_; have BK346 := n6_; have HB := n7_; have HO354 := n8_; clear n0_ n1_ n2_ n3_ n4_ n5_ n6_ n7_ n8_; clear ho hb hg hat))
                      (first | go_roundg k2 | (refine Handed.intro k2 ?measure ?_; rotate_left; go_step; (repeat apply Exists.intro); refine ⟨?rel, ?fr_⟩; (case fr_ => (simp only [Addr.add_lit, Nat.zero_add]; rfl))))
                      case measure => have := HJ5.out; have := HK2.out; omega
                      case rel => exact ⟨(y352), (t342), H', ⟨by have := HJ5.out; have := HK2.out; omega⟩, ⟨by (with_reducible repeat (first | apply Kd.V_alloc | apply Kd.V_drewN | apply Kd.V_drew)); exact Kd.V_mono HO_7.out (fun _ hk => ⟨hk.2, hk.1.1⟩)⟩, ⟨by (with_reducible repeat (first | apply Kd.V_alloc | apply Kd.V_drewN | apply Kd.V_drew)); exact Kd.V_mono HO_8.out (fun _ hk => ⟨hk.2, hk.1.1⟩)⟩, ⟨by (with_reducible repeat (first | apply Kd.N_alloc | apply Kd.N_drewN | apply Kd.N_drew)); exact Kd.N_mono HO354.out (fun _ hk => hk.1)⟩, ⟨by (with_reducible repeat (first | apply Kd.V_alloc | apply Kd.V_drewN | apply Kd.V_drew)); exact Kd.V_mono HO344.out (fun _ hk => ⟨hk.2, hk.1.1⟩)⟩, ⟨by (with_reducible repeat (first | refine blk_drewN ?_ _ | refine blk_drew ?_ | refine blk_alloc ?_ _)); exact BK327.out⟩, ⟨by repeat (first | (with_reducible first | exact HB.out | apply below_alloc | apply pw_below_drewN | apply below_drew1 | refine below_set ?_ GE327.out | refine below_set ?_ GE346.out) | exact HB.out)⟩⟩
                    · rw [if_neg c42] at H
                      exact absurd H (by simp)
                  · rw [if_neg c41] at H
                    exact absurd H (by simp)
              · replace c19 := Bool.eq_false_iff.mpr c19
                subst c19
                have H1 : (if (x9_2.length : Int) = (wrap64 ((l0.length : Int) + 1)) then ((affidavitref20_Same.f k2 x9_2 t333).bind fun t355 => (affidavitlaw20_QueueOrder.j2 k2 l2 t330 x9_2 (!t355) a1_0 a1_1 a1_2 l1_3)) else (none)) = some r := by rw [if_neg (show ¬ (false = true) by decide)] at H; exact H
                clear H
                have H := H1
                clear H1
                have HC55 := Aside0.mk H
                clear H
                obtain ⟨Ao56, co56, eo56⟩ := Kd.V_slice HO_10.out
                subst eo56
                go_upto_region 15 with (first | ((with_reducible refine gate_callee (f := 13) rfl ?_); refine goesL_ (some 43) rfl rfl Try.func13 (by kernel_rfl) rfl #[.slice Ao56 x10_2.length co56] rfl (by (try simp only [List.map_toArray, List.map_cons, List.map_nil]); first | done | rfl | (simp only [List.length_drop, List.length_take]; rfl)) ?_; (with_reducible refine (queue_First.calls _ _ x10_2 t336 t337 t338 t339 t342 false _ ?side1 ?side2 A18.out).mono ?_); (case side1 => repeat (first | exact (Kd.V_reads' HO_10.out).2.2 | (with_reducible refine Kd.C_alloc ?_ _) | (with_reducible refine Kd.C_drewN ?_ _) | (with_reducible refine Kd.C_drew ?_))); (case side2 => exact (Kd.V_reads' HO_10.out).2.1); rintro e w57 ⟨v340, v343, rfl, ho0, ho1, hb⟩; refine ⟨_, rfl, ?_⟩; have n0_ := Aside0.mk (Kd.V_below (by (with_reducible repeat (first | apply Kd.V_alloc | apply Kd.V_drewN | apply Kd.V_drew)); exact HO_7.out) hb); have n1_ := Aside0.mk (Kd.V_below (by (with_reducible repeat (first | apply Kd.V_alloc | apply Kd.V_drewN | apply Kd.V_drew)); exact HO_8.out) hb); have n2_ := Aside0.mk (Kd.N_below (by (with_reducible repeat (first | apply Kd.N_alloc | apply Kd.N_drewN | apply Kd.N_drew)); exact HO_9.out) hb); have n3_ := Aside0.mk (Kd.V_below (by (with_reducible repeat (first | apply Kd.V_alloc | apply Kd.V_drewN | apply Kd.V_drew)); exact HO_10.out) hb); have n4_ := Aside0.mk (Kd.V_lower (Kd.V_mono (ok' := fun k_ => some k_ ≠ (u9 : Value).ownBlock ∧ k_ ≠ gb327) ho0 (fun k_ hk_ => ⟨(Kd.fresh' (Kd.N_lt (by (with_reducible repeat (first | apply Kd.N_alloc | apply Kd.N_drewN | apply Kd.N_drew)); exact HO_9.out)) k_ hk_), (Kd.freshB (g := gb327) (o := .cells #[.int .i64 a1_0, .int .i64 a1_1, .int .i64 a1_2, .slice A1_3 l1_3.length c1_3] 25 (0, 0)) (by (with_reducible repeat (first | refine blk_drewN ?_ _ | refine blk_drew ?_ | refine blk_alloc ?_ _)); exact BK327.out) k_ hk_)⟩)) (below_size (by repeat (first | (with_reducible first | exact HB.out | apply below_alloc | apply pw_below_drewN | apply below_drew1 | refine below_set ?_ GE327.out) | exact HB.out)))); have n5_ := Aside0.mk (Kd.V_lower (Kd.V_mono (ok' := fun k_ => some k_ ≠ (u9 : Value).ownBlock ∧ k_ ≠ gb327) ho1 (fun k_ hk_ => ⟨(Kd.fresh' (Kd.N_lt (by (with_reducible repeat (first | apply Kd.N_alloc | apply Kd.N_drewN | apply Kd.N_drew)); exact HO_9.out)) k_ hk_), (Kd.freshB (g := gb327) (o := .cells #[.int .i64 a1_0, .int .i64 a1_1, .int .i64 a1_2, .slice A1_3 l1_3.length c1_3] 25 (0, 0)) (by (with_reducible repeat (first | refine blk_drewN ?_ _ | refine blk_drew ?_ | refine blk_alloc ?_ _)); exact BK327.out) k_ hk_)⟩)) (below_size (by repeat (first | (with_reducible first | exact HB.out | apply below_alloc | apply pw_below_drewN | apply below_drew1 | refine below_set ?_ GE327.out) | exact HB.out)))); have n6_ := Aside0.mk (blk_below (g := gb327) (o := .cells #[.int .i64 a1_0, .int .i64 a1_1, .int .i64 a1_2, .slice A1_3 l1_3.length c1_3] 25 (0, 0)) (by (with_reducible repeat (first | refine blk_drewN ?_ _ | refine blk_drew ?_ | refine blk_alloc ?_ _)); exact BK327.out) hb); have n7_ := Aside0.mk (below_step (by repeat (first | (with_reducible first | exact HB.out | apply below_alloc | apply pw_below_drewN | apply below_drew1 | refine below_set ?_ GE327.out) | exact HB.out)) hb); clear HO_7; clear HO_8; clear HO_9; clear HO_10; clear BK327; clear HB; have HO_7 := n0_; have HO_8 := n1_; have HO_9 := n2_; have HO_10 := n3_; have HO341 := n4_; have HO344 := n5_; have BK327 := n6_; have HB := n7_; clear n0_ n1_ n2_ n3_ n4_ n5_ n6_ n7_; (try clear hb); (try clear hb2); (try clear hk); (try clear hi); (try clear ho0); (try clear ho1)) | ((with_reducible refine gate_dst (N := 11) rfl ?_); (try (refine gate_guard (by rfl) ?_; dsimp only)); refine box_event ?hg (N := 11) ?hd (cs := #[.int .i64 0, .int .i64 0, .int .i64 0, .slice none 0 0]) (t := 25) ?hr ?_; (case hd => rfl); (case hg => rfl); (case hr => first | (go_simp; done) | (go_simp; rfl)); intro gb346 hg w58 hbox hb; have n0_ := Aside0.mk (Kd.V_below (Kd.V_elderB (by (with_reducible repeat (first | apply Kd.V_alloc | apply Kd.V_drewN | apply Kd.V_drew)); exact HO_7.out) gb346 (Nat.le_of_eq hg.symm)) hb); have n1_ := Aside0.mk (Kd.V_below (Kd.V_elderB (by (with_reducible repeat (first | apply Kd.V_alloc | apply Kd.V_drewN | apply Kd.V_drew)); exact HO_8.out) gb346 (Nat.le_of_eq hg.symm)) hb); have n2_ := Aside0.mk (Kd.N_below (Kd.N_elderB (by (with_reducible repeat (first | apply Kd.N_alloc | apply Kd.N_drewN | apply Kd.N_drew)); exact HO_9.out) gb346 (Nat.le_of_eq hg.symm)) hb); have n3_ := Aside0.mk (Kd.V_below (Kd.V_elderB (by (with_reducible repeat (first | apply Kd.V_alloc | apply Kd.V_drewN | apply Kd.V_drew)); exact HO_10.out) gb346 (Nat.le_of_eq hg.symm)) hb); have n4_ := Aside0.mk (Kd.V_below (Kd.V_elderB (by (with_reducible repeat (first | apply Kd.V_alloc | apply Kd.V_drewN | apply Kd.V_drew)); exact HO341.out) gb346 (Nat.le_of_eq hg.symm)) hb); have n5_ := Aside0.mk (Kd.V_below (Kd.V_elderB (by (with_reducible repeat (first | apply Kd.V_alloc | apply Kd.V_drewN | apply Kd.V_drew)); exact HO344.out) gb346 (Nat.le_of_eq hg.symm)) hb); have n6_ := Aside0.mk (blk_below (g := gb327) (o := .cells #[.int .i64 a1_0, .int .i64 a1_1, .int .i64 a1_2, .slice A1_3 l1_3.length c1_3] 25 (0, 0)) (by (with_reducible repeat (first | refine blk_drewN ?_ _ | refine blk_drew ?_ | refine blk_alloc ?_ _)); exact BK327.out) hb); have n7_ := Aside0.mk (below_step (by repeat (first | (with_reducible first | exact HB.out | apply below_alloc | apply pw_below_drewN | apply below_drew1 | refine below_set ?_ GE327.out) | exact HB.out)) hb); have n8_ := Aside0.mk (hbox); have n9_ := Aside0.mk ((by rw [hg]; exact (below_size (by repeat (first | (with_reducible first | exact HB.out | apply below_alloc | apply pw_below_drewN | apply below_drew1 | refine below_set ?_ GE327.out) | exact HB.out))) : w.heap.size ≤ gb346)); have n10_ := Aside0.mk ((by rw [hg]; exact (below_size (by repeat (first | (with_reducible first | exact HB.out | apply below_alloc | apply pw_below_drewN | apply below_drew1 | refine below_set ?_ GE327.out) | exact HB.out))) : w.heap.size ≤ gb346)); have n11_ := Aside0.mk ((by rw [hg]; exact Nat.ne_of_lt (blk_lt (g := gb327) (o := .cells #[.int .i64 a1_0, .int .i64 a1_1, .int .i64 a1_2, .slice A1_3 l1_3.length c1_3] 25 (0, 0)) (by (with_reducible repeat (first | refine blk_drewN ?_ _ | refine blk_drew ?_ | refine blk_alloc ?_ _)); exact BK327.out)) : gb327 ≠ gb346)); have n12_ := Aside0.mk ((by rw [hg]; exact Nat.ne_of_gt (blk_lt (g := gb327) (o := .cells #[.int .i64 a1_0, .int .i64 a1_1, .int .i64 a1_2, .slice A1_3 l1_3.length c1_3] 25 (0, 0)) (by (with_reducible repeat (first | refine blk_drewN ?_ _ | refine blk_drew ?_ | refine blk_alloc ?_ _)); exact BK327.out)) : gb346 ≠ gb327)); clear HO_7; clear HO_8; clear HO_9; clear HO_10; clear HO341; clear HO344; clear BK327; clear HB; have HO_7 := n0_; have HO_8 := n1_; have HO_9 := n2_; have HO_10 := n3_; have HO341 := n4_; have HO344 := n5_; have BK327 := n6_; have HB := n7_; have BK346 := n8_; have GW346 := n9_; have GE346 := n10_; have NB327_346 := n11_; have NB346_327 := n12_; clear n0_ n1_ n2_ n3_ n4_ n5_ n6_ n7_ n8_ n9_ n10_ n11_ n12_; clear hb hbox hg; have hnb59 := NB346_327.out; have hnc59 := NB327_346.out; have hcz60_0 : w58.cell? ⟨gb346, 0, none⟩ = some (.int .i64 0) := (blk_cell BK346.out 0).trans rfl; have hcz60_1 : w58.cell? ⟨gb346, 1, none⟩ = some (.int .i64 0) := (blk_cell BK346.out 1).trans rfl; have hcz60_2 : w58.cell? ⟨gb346, 2, none⟩ = some (.int .i64 0) := (blk_cell BK346.out 2).trans rfl; have hcz60_3 : w58.cell? ⟨gb346, 3, none⟩ = some (.slice none 0 0) := (blk_cell BK346.out 3).trans rfl; have hfz60_0 := blk_frozen BK346.out 0; have hfz60_1 := blk_frozen BK346.out 1; have hfz60_2 := blk_frozen BK346.out 2; have hfz60_3 := blk_frozen BK346.out 3; obtain ⟨Ao61, co61, eo61⟩ := Kd.V_slice HO341.out; subst eo61))
                (try simp only [Act.put, List.setIfInBounds_toArray, List.set_cons_zero, List.set_cons_succ])
                go_cut [86] (fun v86 wc => ∃ (kq : Nat) (x86_54 : Bool), v86 = .bool x86_54 ∧ Aside0 (affidavitlaw20_QueueOrder.j2 kq l2 t330 x9_2 x86_54 a1_0 a1_1 a1_2 l1_3 = some r) ∧ Aside0 (kq ≤ k2) ∧ Aside0 (Kd.V k25 25 wc w.heap.size (fun k_ => some k_ ≠ (u9 : Value).ownBlock ∧ k_ ≠ gb327 ∧ k_ ≠ gb346) (.slice Ao16 t330.length co16) t330) ∧ Aside0 (Kd.N k25 25 wc w.heap.size (fun k_ => k_ ≠ gb327 ∧ k_ ≠ gb346) u9 x9_2) ∧ Aside0 (Kd.V (Kd.int .u8) 5 wc w.heap.size (fun k_ => some k_ ≠ (u9 : Value).ownBlock ∧ k_ ≠ gb327 ∧ k_ ≠ gb346) (.slice Ao61 t339.length co61) t339) ∧ Aside0 (wc.heap[gb327]? = some (.cells #[.int .i64 a1_0, .int .i64 a1_1, .int .i64 a1_2, (.slice A1_3 l1_3.length c1_3)] 25 (0, 0))) ∧ Aside0 (wc.heap[gb346]? = some (.cells #[.int .i64 t336, .int .i64 t337, .int .i64 t338, (.slice Ao61 t339.length co61)] 25 (0, 0))) ∧ Aside0 (Below w.heap.size w wc))
                case first =>
                  have H := HC55.out
                  clear HC55
                  by_cases c62 : (x9_2.length : Int) = (wrap64 ((l0.length : Int) + 1))
                  · rw [if_pos c62] at H
                    have c62b0 : ((x9_2.length : Int) == (wrap64 ((l0.length : Int) + 1))) = true := beq_iff_eq.mpr c62
                    have c62b1 : ((x9_2.length : Int) != (wrap64 ((l0.length : Int) + 1))) = false := bne_eq_false_iff_eq.mpr c62
                    clear c62
                    (first | rw [c62b0] | (simp only [i64_w, i32_w]; rw [c62b0]) | skip)
                    replace H := Option.bind_eq_some_iff.mp H
                    obtain ⟨t355, A630, H⟩ := H
                    replace H : (affidavitlaw20_QueueOrder.j2 k2 l2 t330 x9_2 (!t355) a1_0 a1_1 a1_2 l1_3) = some r := H
                    have A63 := Aside0.mk A630
                    clear A630
                    have H' := Aside0.mk H
                    clear H
                    obtain ⟨Ao64, co64, eo64⟩ := Kd.N_slice HO_9.out
                    subst eo64
                    obtain ⟨Ao65, co65, eo65⟩ := Kd.V_slice HO_8.out
                    subst eo65
                    go_wp2_with (first | (go_at_call 17; (with_reducible refine (affidavitref20_Same.calls k2 _ _ x9_2 _ _ t333 t355 _ ?side1 ?side2 ?side3 ?side4 A63.out).mono ?_); (case side1 => refine (Kd.N_reads' (e := 25) (base := w.heap.size) (ok := fun k_ => (k_ ≠ gb327 ∧ k_ ≠ gb346)) (n := x9_2.length) (c := co64) ?_).2.2; exact (by (with_reducible repeat (first | apply Kd.N_alloc | apply Kd.N_drewN | apply Kd.N_drew)); exact (Kd.N_mono (Kd.N_far (p := ⟨gb346, 3, none⟩) (Kd.N_far (p := ⟨gb346, 2, none⟩) (Kd.N_far (p := ⟨gb346, 1, none⟩) (Kd.N_far (p := ⟨gb346, 0, none⟩) (Kd.N_mono HO_9.out (fun k_ hk => (⟨hk, hk.2⟩ : _ ∧ k_ ≠ gb346))) (fun _ hk => hk.2) (.int .i64 t336)) (fun _ hk => hk.2) (.int .i64 t337)) (fun _ hk => hk.2) (.int .i64 t338)) (fun _ hk => hk.2) (.slice Ao61 t339.length co61)) (fun _ h_ => h_.1)))); (case side2 => exact (Kd.N_reads' HO_9.out).2.1); (case side3 => refine (Kd.V_reads' (e := 25) (base := w.heap.size) (ok := fun k_ => ((some k_ ≠ (.slice Ao64 x9_2.length co64 : Value).ownBlock ∧ k_ ≠ gb327) ∧ k_ ≠ gb346)) (n := t333.length) (c := co65) ?_).2.2; exact (by (with_reducible repeat (first | apply Kd.V_alloc | apply Kd.V_drewN | apply Kd.V_drew)); exact (Kd.V_mono (Kd.V_far (p := ⟨gb346, 3, none⟩) (Kd.V_far (p := ⟨gb346, 2, none⟩) (Kd.V_far (p := ⟨gb346, 1, none⟩) (Kd.V_far (p := ⟨gb346, 0, none⟩) (Kd.V_mono HO_8.out (fun k_ hk => (⟨hk, hk.2⟩ : _ ∧ k_ ≠ gb346))) (fun _ hk => hk.2) (.int .i64 t336)) (fun _ hk => hk.2) (.int .i64 t337)) (fun _ hk => hk.2) (.int .i64 t338)) (fun _ hk => hk.2) (.slice Ao61 t339.length co61)) (fun _ h_ => h_.1)))); (case side4 => exact (Kd.V_reads' HO_8.out).2.1); rintro e w66 ⟨rfl, hb⟩; have n0_ := Aside0.mk (Kd.V_below (by (with_reducible repeat (first | apply Kd.V_alloc | apply Kd.V_drewN | apply Kd.V_drew)); exact (Kd.V_mono (Kd.V_far (p := ⟨gb346, 3, none⟩) (Kd.V_far (p := ⟨gb346, 2, none⟩) (Kd.V_far (p := ⟨gb346, 1, none⟩) (Kd.V_far (p := ⟨gb346, 0, none⟩) (Kd.V_mono HO_7.out (fun k_ hk => (⟨hk, hk.2⟩ : _ ∧ k_ ≠ gb346))) (fun _ hk => hk.2) (.int .i64 t336)) (fun _ hk => hk.2) (.int .i64 t337)) (fun _ hk => hk.2) (.int .i64 t338)) (fun _ hk => hk.2) (.slice Ao61 t339.length co61)) (fun _ h_ => h_.1))) hb); have n1_ := Aside0.mk (Kd.V_below (by (with_reducible repeat (first | apply Kd.V_alloc | apply Kd.V_drewN | apply Kd.V_drew)); exact (Kd.V_mono (Kd.V_far (p := ⟨gb346, 3, none⟩) (Kd.V_far (p := ⟨gb346, 2, none⟩) (Kd.V_far (p := ⟨gb346, 1, none⟩) (Kd.V_far (p := ⟨gb346, 0, none⟩) (Kd.V_mono HO_8.out (fun k_ hk => (⟨hk, hk.2⟩ : _ ∧ k_ ≠ gb346))) (fun _ hk => hk.2) (.int .i64 t336)) (fun _ hk => hk.2) (.int .i64 t337)) (fun _ hk => hk.2) (.int .i64 t338)) (fun _ hk => hk.2) (.slice Ao61 t339.length co61)) (fun _ h_ => h_.1))) hb); have n2_ := Aside0.mk (Kd.N_below (by (with_reducible repeat (first | apply Kd.N_alloc | apply Kd.N_drewN | apply Kd.N_drew)); exact (Kd.N_mono (Kd.N_far (p := ⟨gb346, 3, none⟩) (Kd.N_far (p := ⟨gb346, 2, none⟩) (Kd.N_far (p := ⟨gb346, 1, none⟩) (Kd.N_far (p := ⟨gb346, 0, none⟩) (Kd.N_mono HO_9.out (fun k_ hk => (⟨hk, hk.2⟩ : _ ∧ k_ ≠ gb346))) (fun _ hk => hk.2) (.int .i64 t336)) (fun _ hk => hk.2) (.int .i64 t337)) (fun _ hk => hk.2) (.int .i64 t338)) (fun _ hk => hk.2) (.slice Ao61 t339.length co61)) (fun _ h_ => h_.1))) hb); have n3_ := Aside0.mk (Kd.V_below (by (with_reducible repeat (first | apply Kd.V_alloc | apply Kd.V_drewN | apply Kd.V_drew)); exact (Kd.V_mono (Kd.V_far (p := ⟨gb346, 3, none⟩) (Kd.V_far (p := ⟨gb346, 2, none⟩) (Kd.V_far (p := ⟨gb346, 1, none⟩) (Kd.V_far (p := ⟨gb346, 0, none⟩) (Kd.V_mono HO_10.out (fun k_ hk => (⟨hk, hk.2⟩ : _ ∧ k_ ≠ gb346))) (fun _ hk => hk.2) (.int .i64 t336)) (fun _ hk => hk.2) (.int .i64 t337)) (fun _ hk => hk.2) (.int .i64 t338)) (fun _ hk => hk.2) (.slice Ao61 t339.length co61)) (fun _ h_ => h_.1))) hb); have n4_ := Aside0.mk (Kd.V_below (by (with_reducible repeat (first | apply Kd.V_alloc | apply Kd.V_drewN | apply Kd.V_drew)); exact (Kd.V_mono (Kd.V_far (p := ⟨gb346, 3, none⟩) (Kd.V_far (p := ⟨gb346, 2, none⟩) (Kd.V_far (p := ⟨gb346, 1, none⟩) (Kd.V_far (p := ⟨gb346, 0, none⟩) (Kd.V_mono HO341.out (fun k_ hk => (⟨hk, hk.2⟩ : _ ∧ k_ ≠ gb346))) (fun _ hk => hk.2) (.int .i64 t336)) (fun _ hk => hk.2) (.int .i64 t337)) (fun _ hk => hk.2) (.int .i64 t338)) (fun _ hk => hk.2) (.slice Ao61 t339.length co61)) (fun _ h_ => h_.1))) hb); have n5_ := Aside0.mk (Kd.V_below (by (with_reducible repeat (first | apply Kd.V_alloc | apply Kd.V_drewN | apply Kd.V_drew)); exact (Kd.V_mono (Kd.V_far (p := ⟨gb346, 3, none⟩) (Kd.V_far (p := ⟨gb346, 2, none⟩) (Kd.V_far (p := ⟨gb346, 1, none⟩) (Kd.V_far (p := ⟨gb346, 0, none⟩) (Kd.V_mono HO344.out (fun k_ hk => (⟨hk, hk.2⟩ : _ ∧ k_ ≠ gb346))) (fun _ hk => hk.2) (.int .i64 t336)) (fun _ hk => hk.2) (.int .i64 t337)) (fun _ hk => hk.2) (.int .i64 t338)) (fun _ hk => hk.2) (.slice Ao61 t339.length co61)) (fun _ h_ => h_.1))) hb); have n6_ := Aside0.mk (blk_below (g := gb327) (o := .cells #[.int .i64 a1_0, .int .i64 a1_1, .int .i64 a1_2, .slice A1_3 l1_3.length c1_3] 25 (0, 0)) (by (with_reducible repeat (first | refine blk_drewN ?_ _ | refine blk_drew ?_ | refine blk_alloc ?_ _)); refine blk_far ?_ NB327_346.out _; (with_reducible repeat (first | refine blk_drewN ?_ _ | refine blk_drew ?_ | refine blk_alloc ?_ _)); refine blk_far ?_ NB327_346.out _; (with_reducible repeat (first | refine blk_drewN ?_ _ | refine blk_drew ?_ | refine blk_alloc ?_ _)); refine blk_far ?_ NB327_346.out _; (with_reducible repeat (first | refine blk_drewN ?_ _ | refine blk_drew ?_ | refine blk_alloc ?_ _)); refine blk_far ?_ NB327_346.out _; (with_reducible repeat (first | refine blk_drewN ?_ _ | refine blk_drew ?_ | refine blk_alloc ?_ _)); exact BK327.out) hb); have n7_ := Aside0.mk (blk_below (g := gb346) (o := .cells #[.int .i64 t336, .int .i64 t337, .int .i64 t338, .slice Ao61 t339.length co61] 25 (0, 0)) (by (with_reducible repeat (first | refine blk_drewN ?_ _ | refine blk_drew ?_ | refine blk_alloc ?_ _)); refine blk_put (cs := #[.int .i64 t336, .int .i64 t337, .int .i64 t338, .slice none 0 0]) ?_ 3 _ rfl; (with_reducible repeat (first | refine blk_drewN ?_ _ | refine blk_drew ?_ | refine blk_alloc ?_ _)); refine blk_put (cs := #[.int .i64 t336, .int .i64 t337, .int .i64 0, .slice none 0 0]) ?_ 2 _ rfl; (with_reducible repeat (first | refine blk_drewN ?_ _ | refine blk_drew ?_ | refine blk_alloc ?_ _)); refine blk_put (cs := #[.int .i64 t336, .int .i64 0, .int .i64 0, .slice none 0 0]) ?_ 1 _ rfl; (with_reducible repeat (first | refine blk_drewN ?_ _ | refine blk_drew ?_ | refine blk_alloc ?_ _)); refine blk_put (cs := #[.int .i64 0, .int .i64 0, .int .i64 0, .slice none 0 0]) ?_ 0 _ rfl; (with_reducible repeat (first | refine blk_drewN ?_ _ | refine blk_drew ?_ | refine blk_alloc ?_ _)); exact BK346.out) hb); have n8_ := Aside0.mk (below_step (by repeat (first | (with_reducible first | exact HB.out | apply below_alloc | apply pw_below_drewN | apply below_drew1 | refine below_set ?_ GE327.out | refine below_set ?_ GE346.out) | exact HB.out)) hb); clear HO_7; clear HO_8; clear HO_9; clear HO_10; clear HO341; clear HO344; clear BK327; clear BK346; clear HB; have HO_7 := n0_; have HO_8 := n1_; have HO_9 := n2_; have HO_10 := n3_; have HO341 := n4_; have HO344 := n5_; have BK327 := n6_; have BK346 := n7_; have HB := n8_; clear n0_ n1_ n2_ n3_ n4_ n5_ n6_ n7_ n8_; (try clear hb); (try clear hb2); (try clear hk); (try clear hi)))
                    go_meet
                    case rel => exact ⟨_, (!t355), (by first | rfl | (simp; done) | (simp [*]; done)), H', ⟨by have := HJ5.out; have := HK2.out; first | omega | exact Nat.le_refl _⟩, ⟨by (with_reducible repeat (first | apply Kd.V_alloc | apply Kd.V_drewN | apply Kd.V_drew)); exact Kd.V_mono HO_7.out (fun _ hk => ⟨hk.1.1, ⟨hk.1.2, hk.2⟩⟩)⟩, ⟨by (with_reducible repeat (first | apply Kd.N_alloc | apply Kd.N_drewN | apply Kd.N_drew)); exact HO_9.out⟩, ⟨by (with_reducible repeat (first | apply Kd.V_alloc | apply Kd.V_drewN | apply Kd.V_drew)); exact Kd.V_mono HO341.out (fun _ hk => ⟨hk.1.1, ⟨hk.1.2, hk.2⟩⟩)⟩, ⟨by (with_reducible repeat (first | refine blk_drewN ?_ _ | refine blk_drew ?_ | refine blk_alloc ?_ _)); exact BK327.out⟩, ⟨by (with_reducible repeat (first | refine blk_drewN ?_ _ | refine blk_drew ?_ | refine blk_alloc ?_ _)); exact BK346.out⟩, ⟨by repeat (first | (with_reducible first | exact HB.out | apply below_alloc | apply pw_below_drewN | apply below_drew1 | refine below_set ?_ GE327.out | refine below_set ?_ GE346.out) | exact HB.out)⟩⟩
                  · rw [if_neg c62] at H
                    exact absurd H (by simp)
                case rest =>
                  clear HC55
                  try clear c1
                  try clear c2
                  try clear p2
                  try clear c3
                  try clear p3
                  try clear q3
                  try clear hx3
                  try clear c4
                  try clear c5
                  try clear c6
                  try clear p6
                  try clear c13
                  try clear c15
                  try clear c19
                  try clear c20
                  try clear c20b0
                  try clear c20b1
                  try clear c22
                  try clear c23
                  try clear c26
                  try clear c27
                  try clear c34
                  try clear p34
                  try clear q34
                  try clear hx34
                  try clear c41
                  try clear c41b0
                  try clear c41b1
                  try clear c42
                  try clear c46
                  try clear c59
                  try clear c62
                  try clear c62b0
                  try clear c62b1
                  try clear p64
                  try clear hcz39_0
                  try clear hcz39_1
                  try clear hcz39_2
                  try clear hcz39_3
                  try clear hcz47_0
                  try clear hcz47_1
                  try clear hcz47_2
                  try clear hcz47_3
                  try clear hcz53_0
                  try clear hcz53_1
                  try clear hcz53_2
                  try clear hcz53_3
                  try clear hcz60_0
                  try clear hcz60_1
                  try clear hcz60_2
                  try clear hcz60_3
                  try clear hfz39_0
                  try clear hfz39_1
                  try clear hfz39_2
                  try clear hfz39_3
                  try clear hfz47_0
                  try clear hfz47_1
                  try clear hfz47_2
                  try clear hfz47_3
                  try clear hfz53_0
                  try clear hfz53_1
                  try clear hfz53_2
                  try clear hfz53_3
                  try clear hfz60_0
                  try clear hfz60_1
                  try clear hfz60_2
                  try clear hfz60_3
                  try clear hx347_0
                  try clear hx347_1
                  try clear hx347_2
                  try clear hx347_3
                  try clear p347
                  try clear q347
                  obtain ⟨kq, x86_54, rfl, HA, HJ54, HO_7, HO_9, HO_347003, BK327, BK346, HB⟩ := hcut
                  cases kq with
                  | zero => exact absurd HA.out (by simp [affidavitlaw20_QueueOrder.j2])
                  | succ kj54 =>
                    have H := HA.out
                    clear HA
                    simp only [affidavitlaw20_QueueOrder.j2] at H
                    by_cases c67 : x86_54 = true
                    · subst c67
                      have H1 : (none) = some r := by rw [if_pos rfl] at H; exact H
                      clear H
                      have H := H1
                      clear H1
                      exact absurd H (by simp)
                    · replace c67 := Bool.eq_false_iff.mpr c67
                      subst c67
                      have H1 : (affidavitlaw20_QueueOrder.l1 kj54 l2 t330 x9_2 false 0 a1_0 a1_1 a1_2 l1_3) = some r := by rw [if_neg (show ¬ (false = true) by decide)] at H; exact H
                      clear H
                      have H := H1
                      clear H1
                      have H' := Aside0.mk H
                      clear H
                      go_wp2
                      go_loopg [14, 15] kj54 (fun kq v14 v15 w' => ∃ (x14_4 : Bool) (x15_4 : Int), v14 = .bool x14_4 ∧ v15 = .int .i64 x15_4 ∧ Aside0 (affidavitlaw20_QueueOrder.l1 kq l2 t330 x9_2 x14_4 x15_4 a1_0 a1_1 a1_2 l1_3 = some r) ∧ Aside0 (kq ≤ kj54) ∧ Aside0 (Kd.V k25 25 w' w.heap.size (fun k_ => some k_ ≠ (u9 : Value).ownBlock ∧ k_ ≠ gb327 ∧ k_ ≠ gb346) (.slice Ao16 t330.length co16) t330) ∧ Aside0 (Kd.N k25 25 w' w.heap.size (fun k_ => k_ ≠ gb327 ∧ k_ ≠ gb346) u9 x9_2) ∧ Aside0 (Kd.V (Kd.int .u8) 5 w' w.heap.size (fun k_ => some k_ ≠ (u9 : Value).ownBlock ∧ k_ ≠ gb327 ∧ k_ ≠ gb346) (.slice Ao61 t339.length co61) t339) ∧ Aside0 (w'.heap[gb327]? = some (.cells #[.int .i64 a1_0, .int .i64 a1_1, .int .i64 a1_2, (.slice A1_3 l1_3.length c1_3)] 25 (0, 0))) ∧ Aside0 (w'.heap[gb346]? = some (.cells #[.int .i64 t336, .int .i64 t337, .int .i64 t338, (.slice Ao61 t339.length co61)] 25 (0, 0))) ∧ Aside0 (Below w.heap.size w w'))
                      case atStart => exact ⟨(false), (0), (by first | rfl | (simp; done) | (simp [*]; done)), (by first | rfl | (simp; done) | (simp [*]; done)), H', ⟨Nat.le_refl _⟩, ⟨by (with_reducible repeat (first | apply Kd.V_alloc | apply Kd.V_drewN | apply Kd.V_drew)); exact HO_7.out⟩, ⟨by (with_reducible repeat (first | apply Kd.N_alloc | apply Kd.N_drewN | apply Kd.N_drew)); exact HO_9.out⟩, ⟨by (with_reducible repeat (first | apply Kd.V_alloc | apply Kd.V_drewN | apply Kd.V_drew)); exact HO_347003.out⟩, ⟨by (with_reducible repeat (first | refine blk_drewN ?_ _ | refine blk_drew ?_ | refine blk_alloc ?_ _)); exact BK327.out⟩, ⟨by (with_reducible repeat (first | refine blk_drewN ?_ _ | refine blk_drew ?_ | refine blk_alloc ?_ _)); exact BK346.out⟩, ⟨by repeat (first | (with_reducible first | exact HB.out | apply below_alloc | apply pw_below_drewN | apply below_drew1 | refine below_set ?_ GE327.out | refine below_set ?_ GE346.out) | exact HB.out)⟩⟩
                      case round =>
                        clear H'
                        try clear c1
                        try clear c2
                        try clear p2
                        try clear c3
                        try clear p3
                        try clear q3
                        try clear hx3
                        try clear c4
                        try clear c5
                        try clear c6
                        try clear p6
                        try clear c13
                        try clear c15
                        try clear c19
                        try clear c20
                        try clear c20b0
                        try clear c20b1
                        try clear c22
                        try clear c23
                        try clear c26
                        try clear c27
                        try clear c34
                        try clear p34
                        try clear q34
                        try clear hx34
                        try clear c41
                        try clear c41b0
                        try clear c41b1
                        try clear c42
                        try clear c46
                        try clear c59
                        try clear c62
                        try clear c62b0
                        try clear c62b1
                        try clear p64
                        try clear c67
                        try clear hcz39_0
                        try clear hcz39_1
                        try clear hcz39_2
                        try clear hcz39_3
                        try clear hcz47_0
                        try clear hcz47_1
                        try clear hcz47_2
                        try clear hcz47_3
                        try clear hcz53_0
                        try clear hcz53_1
                        try clear hcz53_2
                        try clear hcz53_3
                        try clear hcz60_0
                        try clear hcz60_1
                        try clear hcz60_2
                        try clear hcz60_3
                        try clear hfz39_0
                        try clear hfz39_1
                        try clear hfz39_2
                        try clear hfz39_3
                        try clear hfz47_0
                        try clear hfz47_1
                        try clear hfz47_2
                        try clear hfz47_3
                        try clear hfz53_0
                        try clear hfz53_1
                        try clear hfz53_2
                        try clear hfz53_3
                        try clear hfz60_0
                        try clear hfz60_1
                        try clear hfz60_2
                        try clear hfz60_3
                        try clear hx347_0
                        try clear hx347_1
                        try clear hx347_2
                        try clear hx347_3
                        try clear p2
                        try clear p3
                        try clear p34
                        try clear p347
                        try clear p6
                        try clear p64
                        try clear q3
                        try clear q34
                        try clear q347
                        obtain ⟨x14_4, x15_4, rfl, rfl, HA, HK4, HO_7, HO_9, HO_347003, BK327, BK346, HB⟩ := hrel
                        cases gk with
                        | zero => exact absurd HA.out (by simp [affidavitlaw20_QueueOrder.l1])
                        | succ k4 =>
                          have H := HA.out
                          clear HA
                          simp only [affidavitlaw20_QueueOrder.l1] at H
                          by_cases c68 : x15_4 < (x9_2.length : Int)
                          · rw [if_pos c68] at H
                            have c68b0 : decide (x15_4 < (x9_2.length : Int)) = true := decide_eq_true c68
                            clear c68
                            by_cases c69 : x14_4 = true
                            · subst c69
                              have H1 : (affidavitlaw20_QueueOrder.l1 k4 l2 t330 x9_2 true (wrap64 (x15_4 + 1)) a1_0 a1_1 a1_2 l1_3) = some r := by rw [if_pos rfl] at H; exact H
                              clear H
                              have H := H1
                              clear H1
                              have H' := Aside0.mk H
                              clear H
                              obtain ⟨Ao70, co70, eo70⟩ := Kd.N_slice HO_9.out
                              subst eo70
                              try go_wp2
                              have n0_ := Aside0.mk (Kd.V_drew HO_7.out)
                              have n1_ := Aside0.mk (Kd.N_drew HO_9.out)
                              have n2_ := Aside0.mk (Kd.V_drew HO_347003.out)
                              have n3_ := Aside0.mk (blk_drew BK327.out)
                              have n4_ := Aside0.mk (blk_drew BK346.out)
                              have n5_ := Aside0.mk (below_drew1 HB.out)
                              clear HO_7
                              clear HO_9
                              clear HO_347003
                              clear BK327
                              clear BK346
                              clear HB
                              have HO_7 := n0_
                              have HO_9 := n1_
                              have HO_347003 := n2_
                              have BK327 := n3_
                              have BK346 := n4_
                              have HB := n5_
                              clear n0_ n1_ n2_ n3_ n4_ n5_
                              refine start_ (n := 10) (S := fun w' => True) (ds := []) #[false, false, false, false, false, false, false, false, false, false] (by kernel_rfl) rfl rfl trivial (fun hHeld => ?_); refine with_tabW affidavitlaw20_QueueOrder.tab21 affidavitlaw20_QueueOrder.bits21 (fun HT_ HW_ => ?_)
                              generalize wr.drew = w71 at HO_7 HO_9 HO_347003 BK327 BK346 HB hHeld ⊢
                              refine pure_ (i := 0) (N := some 93) (v := ?_) (a' := ?_) #[true, false, false, false, false, false, false, false, false, false] rfl rfl (any_of HT_.out (by kernel_rfl)) (fun _ _ _ h => h) (Or.inl ⟨by rfl, ?_⟩) ?_ ?_
                              rotate_left
                              · intro w'
                                go_simp
                                with_reducible rfl
                              rotate_left
                              · simp only [Act.put, List.setIfInBounds_toArray, List.set_cons_zero, List.set_cons_succ, i64_w, i32_w]
                                rfl
                              refine pure_ (i := 1) (N := some 94) (v := ?_) (a' := ?_) #[true, true, false, false, false, false, false, false, false, false] rfl rfl (any_of HT_.out (by kernel_rfl)) (fun _ _ _ h => h) (Or.inl ⟨by rfl, ?_⟩) ?_ ?_
                              rotate_left
                              · intro w'
                                go_simp
                                with_reducible rfl
                              rotate_left
                              · simp only [Act.put, List.setIfInBounds_toArray, List.set_cons_zero, List.set_cons_succ, i64_w, i32_w]
                                rfl
                              refine pure_ (i := 2) (N := some 95) (v := undef) (a' := ?_) #[true, true, true, false, false, false, false, false, false, false] rfl rfl (any_of HT_.out (by kernel_rfl)) (fun _ _ _ h => h) (Or.inr ⟨by rfl, rfl⟩) ?_ ?_
                              rotate_left
                              · simp only [Act.put, List.setIfInBounds_toArray, List.set_cons_zero, List.set_cons_succ, i64_w, i32_w]
                                rfl
                              refine pure_ (i := 3) (N := some 96) (v := undef) (a' := ?_) #[true, true, true, true, false, false, false, false, false, false] rfl rfl (any_of HT_.out (by kernel_rfl)) (fun _ _ _ h => h) (Or.inr ⟨by rfl, rfl⟩) ?_ ?_
                              rotate_left
                              · simp only [Act.put, List.setIfInBounds_toArray, List.set_cons_zero, List.set_cons_succ, i64_w, i32_w]
                                rfl
                              refine pure_ (i := 4) (N := some 97) (v := undef) (a' := ?_) #[true, true, true, true, true, false, false, false, false, false] rfl rfl (any_of HT_.out (by kernel_rfl)) (fun _ _ _ h => h) (Or.inr ⟨by rfl, rfl⟩) ?_ ?_
                              rotate_left
                              · simp only [Act.put, List.setIfInBounds_toArray, List.set_cons_zero, List.set_cons_succ, i64_w, i32_w]
                                rfl
                              refine pure_ (i := 5) (N := some 98) (v := undef) (a' := ?_) #[true, true, true, true, true, true, false, false, false, false] rfl rfl (any_of HT_.out (by kernel_rfl)) (fun _ _ _ h => h) (Or.inr ⟨by rfl, rfl⟩) ?_ ?_
                              rotate_left
                              · simp only [Act.put, List.setIfInBounds_toArray, List.set_cons_zero, List.set_cons_succ, i64_w, i32_w]
                                rfl
                              refine pure_ (i := 6) (N := some 99) (v := undef) (a' := ?_) #[true, true, true, true, true, true, true, false, false, false] rfl rfl (any_of HT_.out (by kernel_rfl)) (fun _ _ _ h => h) (Or.inr ⟨by rfl, rfl⟩) ?_ ?_
                              rotate_left
                              · simp only [Act.put, List.setIfInBounds_toArray, List.set_cons_zero, List.set_cons_succ, i64_w, i32_w]
                                rfl
                              refine pure_ (i := 7) (N := some 100) (v := undef) (a' := ?_) #[true, true, true, true, true, true, true, true, false, false] rfl rfl (any_of HT_.out (by kernel_rfl)) (fun _ _ _ h => h) (Or.inr ⟨by rfl, rfl⟩) ?_ ?_
                              rotate_left
                              · simp only [Act.put, List.setIfInBounds_toArray, List.set_cons_zero, List.set_cons_succ, i64_w, i32_w]
                                rfl
                              refine pure_ (i := 8) (N := some 101) (v := ?_) (a' := ?_) #[true, true, true, true, true, true, true, true, true, false] rfl rfl (any_of HT_.out (by kernel_rfl)) (fun _ _ _ h => h) (Or.inl ⟨by rfl, ?_⟩) ?_ ?_
                              rotate_left
                              · intro w'
                                go_simp
                                with_reducible rfl
                              rotate_left
                              · simp only [Act.put, List.setIfInBounds_toArray, List.set_cons_zero, List.set_cons_succ, i64_w, i32_w]
                                rfl
                              refine pure_ (i := 9) (N := some 14) (v := ?_) (a' := ?_) #[true, true, true, true, true, true, true, true, true, true] rfl rfl (any_of HT_.out (by kernel_rfl)) (fun _ _ _ h => h) (Or.inl ⟨by rfl, ?_⟩) ?_ ?_
                              rotate_left
                              · intro w'
                                go_simp
                                with_reducible rfl
                              rotate_left
                              · simp only [Act.put, List.setIfInBounds_toArray, List.set_cons_zero, List.set_cons_succ, i64_w, i32_w]
                                rfl
                              refine done_ (done_of HT_.out (by kernel_rfl)) ?_
                              try go_wp2
                              (first | go_roundg k4 | (refine Handed.intro k4 ?measure ?_; rotate_left; go_step; (repeat apply Exists.intro); refine ⟨?rel, ?fr_⟩; (case fr_ => (simp only [Addr.add_lit, Nat.zero_add]; rfl))))
                              case measure => have := HJ5.out; have := HK2.out; have := HJ54.out; have := HK4.out; omega
                              case rel => exact ⟨(true), (wrap64 (x15_4 + 1)), (by first | rfl | (simp; done) | (simp [*]; done)), (by first | rfl | (simp; done) | (simp [*]; done)), H', ⟨by have := HJ5.out; have := HK2.out; have := HJ54.out; have := HK4.out; omega⟩, ⟨by (with_reducible repeat (first | apply Kd.V_alloc | apply Kd.V_drewN | apply Kd.V_drew)); exact HO_7.out⟩, ⟨by (with_reducible repeat (first | apply Kd.N_alloc | apply Kd.N_drewN | apply Kd.N_drew)); exact HO_9.out⟩, ⟨by (with_reducible repeat (first | apply Kd.V_alloc | apply Kd.V_drewN | apply Kd.V_drew)); exact HO_347003.out⟩, ⟨by (with_reducible repeat (first | refine blk_drewN ?_ _ | refine blk_drew ?_ | refine blk_alloc ?_ _)); exact BK327.out⟩, ⟨by (with_reducible repeat (first | refine blk_drewN ?_ _ | refine blk_drew ?_ | refine blk_alloc ?_ _)); exact BK346.out⟩, ⟨by repeat (first | (with_reducible first | exact HB.out | apply below_alloc | apply pw_below_drewN | apply below_drew1 | refine below_set ?_ GE327.out | refine below_set ?_ GE346.out) | exact HB.out)⟩⟩
                            · replace c69 := Bool.eq_false_iff.mpr c69
                              subst c69
                              have H1 : (if 0 ≤ x15_4 then ((affidavitref20_One.f ((rd_T25 x9_2 x15_4).f0) ((rd_T25 x9_2 x15_4).f1) ((rd_T25 x9_2 x15_4).f2) ((rd_T25 x9_2 x15_4).f3) a1_0 a1_1 a1_2 l1_3).bind fun t357 => (affidavitlaw20_QueueOrder.l1 k4 l2 t330 x9_2 t357 (wrap64 (x15_4 + 1)) a1_0 a1_1 a1_2 l1_3)) else (none)) = some r := by rw [if_neg (show ¬ (false = true) by decide)] at H; exact H
                              clear H
                              have H := H1
                              clear H1
                              by_cases c72 : 0 ≤ x15_4
                              · rw [if_pos c72] at H
                                have c72b0 : decide (0 ≤ x15_4) = true := decide_eq_true c72
                                clear c72
                                replace H := Option.bind_eq_some_iff.mp H
                                obtain ⟨t357, A730, H⟩ := H
                                replace H : (affidavitlaw20_QueueOrder.l1 k4 l2 t330 x9_2 t357 (wrap64 (x15_4 + 1)) a1_0 a1_1 a1_2 l1_3) = some r := H
                                have A73 := Aside0.mk A730
                                clear A730
                                have H' := Aside0.mk H
                                clear H
                                obtain ⟨Ao74, co74, eo74⟩ := Kd.N_slice HO_9.out
                                subst eo74
                                try go_wp2
                                have n0_ := Aside0.mk (Kd.V_drew HO_7.out)
                                have n1_ := Aside0.mk (Kd.N_drew HO_9.out)
                                have n2_ := Aside0.mk (Kd.V_drew HO_347003.out)
                                have n3_ := Aside0.mk (blk_drew BK327.out)
                                have n4_ := Aside0.mk (blk_drew BK346.out)
                                have n5_ := Aside0.mk (below_drew1 HB.out)
                                clear HO_7
                                clear HO_9
                                clear HO_347003
                                clear BK327
                                clear BK346
                                clear HB
                                have HO_7 := n0_
                                have HO_9 := n1_
                                have HO_347003 := n2_
                                have BK327 := n3_
                                have BK346 := n4_
                                have HB := n5_
                                clear n0_ n1_ n2_ n3_ n4_ n5_
                                have p356 : 0 ≤ (x15_4 : Int) := of_decide_eq_true (by first | (with_reducible assumption) | assumption)
                                have q356 : x15_4 < (x9_2.length : Int) := of_decide_eq_true (by first | (with_reducible assumption) | assumption)
                                obtain ⟨ad356, A356_3, c356_3, e356, hx356_0, hx356_1, hx356_2, hx356_3, hl356_3, hi356_3⟩ := at_T25 (Kd.N_reads' HO_9.out).2.2 x15_4 p356 q356
                                cases e356
                                obtain ⟨ce356, hce356, hMe356, hcc356⟩ := Kd.N_get HO_9.out z25 x15_4 p356 (by first | exact q356 | exact of_decide_eq_true (by first | (with_reducible assumption) | assumption) | (have e_ := (Kd.N_reads' HO_9.out).1; omega))
                                obtain ⟨ua356_3, uc356_3, rfl, ul356_3, ge356_3⟩ := k25_openF hMe356
                                have hv356_3 := hcc356 3 _ rfl
                                rw [add_field _ _ 3 (by omega)] at hv356_3
                                replace hv356_3 := Option.some.inj (hv356_3.symm.trans hx356_3)
                                injection hv356_3 with hva_ hvn_ hvc_
                                rw [hva_] at ge356_3
                                rw [hvc_] at ul356_3
                                have HL356_3 := Aside0.mk (show Kd.V (Kd.int .u8) 5 _ w.heap.size _ _ ((rd_T25 x9_2 x15_4).f3) from Kd.V_mk ul356_3 ge356_3)
                                clear hva_ hvn_ hvc_ ge356_3 ul356_3
                                clear hcc356 hce356
                                have HR356_3 := Aside0.mk hi356_3
                                have HC356_3 := Aside0.mk hl356_3
                                clear hi356_3 hl356_3
                                replace p356 := eq_true p356
                                replace q356 := eq_true q356
                                refine start_ (n := 10) (S := fun w' => w'.cell? ⟨gb327, 0, none⟩ = some (.int .i64 a1_0) ∧ w'.cell? ⟨gb327, 1, none⟩ = some (.int .i64 a1_1) ∧ w'.cell? ⟨gb327, 2, none⟩ = some (.int .i64 a1_2) ∧ w'.cell? ⟨gb327, 3, none⟩ = some (.slice A1_3 l1_3.length c1_3) ∧ w'.cell? (ad356.add ((x15_4).toNat * 4)) = some (.int .i64 ((rd_T25 x9_2 x15_4).f0)) ∧ w'.cell? ⟨(ad356.add ((x15_4).toNat * 4)).block, (ad356.add ((x15_4).toNat * 4)).off + 1, none⟩ = some (.int .i64 ((rd_T25 x9_2 x15_4).f1)) ∧ w'.cell? ⟨(ad356.add ((x15_4).toNat * 4)).block, (ad356.add ((x15_4).toNat * 4)).off + 2, none⟩ = some (.int .i64 ((rd_T25 x9_2 x15_4).f2)) ∧ w'.cell? ⟨(ad356.add ((x15_4).toNat * 4)).block, (ad356.add ((x15_4).toNat * 4)).off + 3, none⟩ = some (.slice A356_3 ((rd_T25 x9_2 x15_4).f3).length c356_3)) (ds := []) #[false, false, false, false, false, false, false, false, false, false] (by kernel_rfl) rfl rfl ⟨(blk_cell BK327.out 0).trans rfl, (blk_cell BK327.out 1).trans rfl, (blk_cell BK327.out 2).trans rfl, (blk_cell BK327.out 3).trans rfl, hx356_0, hx356_1, hx356_2, hx356_3⟩ (fun hHeld => ?_); refine with_tabW affidavitlaw20_QueueOrder.tab21 affidavitlaw20_QueueOrder.bits21 (fun HT_ HW_ => ?_)
                                generalize wr.drew = w75 at HO_7 HO_9 HO_347003 BK327 BK346 HB HL356_3 HR356_3 hx356_0 hx356_1 hx356_2 hx356_3 hHeld ⊢
                                refine pure_ (i := 0) (N := some 93) (v := ?_) (a' := ?_) #[true, false, false, false, false, false, false, false, false, false] rfl rfl (any_of HT_.out (by kernel_rfl)) (fun _ _ _ h => h) (Or.inl ⟨by rfl, ?_⟩) ?_ ?_
                                rotate_left
                                · intro w'
                                  go_simp
                                  with_reducible rfl
                                rotate_left
                                · simp only [Act.put, List.setIfInBounds_toArray, List.set_cons_zero, List.set_cons_succ, i64_w, i32_w]
                                  rfl
                                refine pure_ (i := 1) (N := some 94) (v := ?_) (a' := ?_) #[true, true, false, false, false, false, false, false, false, false] rfl rfl (any_of HT_.out (by kernel_rfl)) (fun _ _ _ h => h) (Or.inl ⟨by rfl, ?_⟩) ?_ ?_
                                rotate_left
                                · intro w'
                                  go_simp
                                  with_reducible rfl
                                rotate_left
                                · simp only [Act.put, List.setIfInBounds_toArray, List.set_cons_zero, List.set_cons_succ, i64_w, i32_w]
                                  rfl
                                refine pure_ (i := 2) (N := some 95) (v := ?_) (a' := ?_) #[true, true, true, false, false, false, false, false, false, false] rfl rfl (any_of HT_.out (by kernel_rfl)) (fun _ _ _ h => h) (Or.inl ⟨by rfl, ?_⟩) ?_ ?_
                                rotate_left
                                · intro w'
                                  go_simp
                                  with_reducible rfl
                                rotate_left
                                · simp only [Act.put, List.setIfInBounds_toArray, List.set_cons_zero, List.set_cons_succ, i64_w, i32_w]
                                  rfl
                                refine pure_ (i := 3) (N := some 96) (v := ?_) (a' := ?_) #[true, true, true, true, false, false, false, false, false, false] rfl rfl (any_of HT_.out (by kernel_rfl)) (fun _ _ _ h => h) (Or.inl ⟨by rfl, ?_⟩) ?_ ?_
                                rotate_left
                                · intro w'
                                  go_simp
                                  with_reducible rfl
                                rotate_left
                                · simp only [Act.put, List.setIfInBounds_toArray, List.set_cons_zero, List.set_cons_succ, i64_w, i32_w]
                                  rfl
                                refine pure_ (i := 4) (N := some 97) (v := ?_) (a' := ?_) #[true, true, true, true, true, false, false, false, false, false] rfl rfl (any_of HT_.out (by kernel_rfl)) (fun _ _ _ h => h) (Or.inl ⟨by rfl, ?_⟩) ?_ ?_
                                rotate_left
                                · intro w'
                                  go_simp
                                  with_reducible rfl
                                rotate_left
                                · simp only [Act.put, List.setIfInBounds_toArray, List.set_cons_zero, List.set_cons_succ, i64_w, i32_w]
                                  rfl
                                refine take_ (i := 5) (N := some 98) (v := ?_) (a' := ?_) #[true, true, true, true, true, true, false, false, false, false] rfl rfl (take_ofW HT_.out HW_.out (by kernel_rfl)) (fun _ _ _ h => h) (Or.inl ⟨by rfl, ?_⟩) hHeld ?_ ?_
                                rotate_left
                                · rintro w' ⟨s0, s1, s2, s3, s4, s5, s6, s7⟩
                                  go_simp
                                  with_reducible rfl
                                rotate_left
                                · simp only [Act.put, List.setIfInBounds_toArray, List.set_cons_zero, List.set_cons_succ, i64_w, i32_w]
                                  rfl
                                refine take_ (i := 6) (N := some 99) (v := ?_) (a' := ?_) #[true, true, true, true, true, true, true, false, false, false] rfl rfl (take_ofW HT_.out HW_.out (by kernel_rfl)) (fun _ _ _ h => h) (Or.inl ⟨by rfl, ?_⟩) hHeld ?_ ?_
                                rotate_left
                                · rintro w' ⟨s0, s1, s2, s3, s4, s5, s6, s7⟩
                                  go_simp
                                  with_reducible rfl
                                rotate_left
                                · simp only [Act.put, List.setIfInBounds_toArray, List.set_cons_zero, List.set_cons_succ, i64_w, i32_w]
                                  rfl
                                refine one_ (i := 7) (N := some 100) #[true, true, true, true, true, true, true, true, false, false] rfl rfl (one_of HT_.out (by kernel_rfl)) (by decide) (fun K hK => ?_)
                                refine goes_ Try.func20 (by kernel_rfl) rfl #[.agg #[.int .i64 ((rd_T25 x9_2 x15_4).f0), .int .i64 ((rd_T25 x9_2 x15_4).f1), .int .i64 ((rd_T25 x9_2 x15_4).f2), .slice A356_3 ((rd_T25 x9_2 x15_4).f3).length c356_3], .agg #[.int .i64 a1_0, .int .i64 a1_1, .int .i64 a1_2, .slice A1_3 l1_3.length c1_3]] (by rfl) rfl rfl (by (try simp only [List.map_toArray, List.map_cons, List.map_nil]); first | done | rfl | (simp only [List.length_drop, List.length_take]; rfl)) ?_
                                with_reducible refine (affidavitref20_One.calls ((rd_T25 x9_2 x15_4).f0) ((rd_T25 x9_2 x15_4).f1) ((rd_T25 x9_2 x15_4).f2) _ _ ((rd_T25 x9_2 x15_4).f3) a1_0 a1_1 a1_2 _ _ l1_3 t357 _ ?side1 ?side2 ?side3 ?side4 A73.out).mono ?_
                                (case side1 => repeat (first | exact (by repeat (first | (with_reducible exact HR356_3.out) | (with_reducible refine Kd.C_alloc ?_ _) | (with_reducible refine Kd.C_drewN ?_ _) | (with_reducible refine Kd.C_drew ?_) | exact HR356_3.out)) | (with_reducible refine Kd.C_alloc ?_ _) | (with_reducible refine Kd.C_drewN ?_ _) | (with_reducible refine Kd.C_drew ?_)))
                                (case side2 => exact HC356_3.out)
                                (case side3 => repeat (first | exact (Kd.C_below HR1_3.out HB.out) | (with_reducible refine Kd.C_alloc ?_ _) | (with_reducible refine Kd.C_drewN ?_ _) | (with_reducible refine Kd.C_drew ?_)))
                                (case side4 => exact HC1_3.out)
                                rintro e w76 ⟨rfl, hb⟩
                                have HS4_ := (hb.cell (World.block_lt_of_cell? _ _ (hHeld.2.2.2.2.1))).trans (hHeld.2.2.2.2.1)
                                have HS5_ := (hb.cell (World.block_lt_of_cell? _ _ (hHeld.2.2.2.2.2.1))).trans (hHeld.2.2.2.2.2.1)
                                have HS6_ := (hb.cell (World.block_lt_of_cell? _ _ (hHeld.2.2.2.2.2.2.1))).trans (hHeld.2.2.2.2.2.2.1)
                                have HS7_ := (hb.cell (World.block_lt_of_cell? _ _ (hHeld.2.2.2.2.2.2.2))).trans (hHeld.2.2.2.2.2.2.2)
                                refine ⟨_, rfl, ?_⟩
                                have n0_ := Aside0.mk (Kd.V_below (by (with_reducible repeat (first | apply Kd.V_alloc | apply Kd.V_drewN | apply Kd.V_drew)); exact HO_7.out) hb)
                                have n1_ := Aside0.mk (Kd.N_below (by (with_reducible repeat (first | apply Kd.N_alloc | apply Kd.N_drewN | apply Kd.N_drew)); exact HO_9.out) hb)
                                have n2_ := Aside0.mk (Kd.V_below (by (with_reducible repeat (first | apply Kd.V_alloc | apply Kd.V_drewN | apply Kd.V_drew)); exact HO_347003.out) hb)
                                have n3_ := Aside0.mk (Kd.V_below (by (with_reducible repeat (first | apply Kd.V_alloc | apply Kd.V_drewN | apply Kd.V_drew)); exact HL356_3.out) hb)
                                have n4_ := Aside0.mk (blk_below (g := gb327) (o := .cells #[.int .i64 a1_0, .int .i64 a1_1, .int .i64 a1_2, .slice A1_3 l1_3.length c1_3] 25 (0, 0)) (by (with_reducible repeat (first | refine blk_drewN ?_ _ | refine blk_drew ?_ | refine blk_alloc ?_ _)); exact BK327.out) hb)
                                have n5_ := Aside0.mk (blk_below (g := gb346) (o := .cells #[.int .i64 t336, .int .i64 t337, .int .i64 t338, .slice Ao61 t339.length co61] 25 (0, 0)) (by (with_reducible repeat (first | refine blk_drewN ?_ _ | refine blk_drew ?_ | refine blk_alloc ?_ _)); exact BK346.out) hb)
                                have n6_ := Aside0.mk (Kd.C_below (by repeat (first | (with_reducible exact HR356_3.out) | (with_reducible refine Kd.C_alloc ?_ _) | (with_reducible refine Kd.C_drewN ?_ _) | (with_reducible refine Kd.C_drew ?_) | exact HR356_3.out)) hb)
                                have n7_ := Aside0.mk (below_step (by repeat (first | (with_reducible first | exact HB.out | apply below_alloc | apply pw_below_drewN | apply below_drew1 | refine below_set ?_ GE327.out | refine below_set ?_ GE346.out) | exact HB.out)) hb)
                                clear HO_7
                                clear HO_9
                                clear HO_347003
                                clear HL356_3
                                clear BK327
                                clear BK346
                                clear HR356_3
                                clear HB
                                have HO_7 := n0_
                                have HO_9 := n1_
                                have HO_347003 := n2_
                                have HL356_3 := n3_
                                have BK327 := n4_
                                have BK346 := n5_
                                have HR356_3 := n6_
                                have HB := n7_
                                clear n0_ n1_ n2_ n3_ n4_ n5_ n6_ n7_
                                (try clear hb)
                                (try clear hb2)
                                (try clear hk)
                                (try clear hi)
                                refine hK.out _ _ ⟨(blk_cell BK327.out 0).trans rfl, (blk_cell BK327.out 1).trans rfl, (blk_cell BK327.out 2).trans rfl, (blk_cell BK327.out 3).trans rfl, HS4_, HS5_, HS6_, HS7_⟩ (fun hHeld => ?_)
                                clear hK K
                                refine norm_ (a' := ?_) ?_ ?_
                                rotate_left
                                · show Act.put _ (some 100) _ = _
                                  simp only [Act.put, List.setIfInBounds_toArray, List.set_cons_zero, List.set_cons_succ, i64_w, i32_w]
                                  rfl
                                refine pure_ (i := 8) (N := some 101) (v := ?_) (a' := ?_) #[true, true, true, true, true, true, true, true, true, false] rfl rfl (any_of HT_.out (by kernel_rfl)) (fun _ _ _ h => h) (Or.inl ⟨by rfl, ?_⟩) ?_ ?_
                                rotate_left
                                · intro w'
                                  go_simp
                                  with_reducible rfl
                                rotate_left
                                · simp only [Act.put, List.setIfInBounds_toArray, List.set_cons_zero, List.set_cons_succ, i64_w, i32_w]
                                  rfl
                                refine pure_ (i := 9) (N := some 14) (v := ?_) (a' := ?_) #[true, true, true, true, true, true, true, true, true, true] rfl rfl (any_of HT_.out (by kernel_rfl)) (fun _ _ _ h => h) (Or.inl ⟨by rfl, ?_⟩) ?_ ?_
                                rotate_left
                                · intro w'
                                  go_simp
                                  with_reducible rfl
                                rotate_left
                                · simp only [Act.put, List.setIfInBounds_toArray, List.set_cons_zero, List.set_cons_succ, i64_w, i32_w]
                                  rfl
                                refine done_ (done_of HT_.out (by kernel_rfl)) ?_
                                try go_wp2
                                (first | go_roundg k4 | (refine Handed.intro k4 ?measure ?_; rotate_left; go_step; (repeat apply Exists.intro); refine ⟨?rel, ?fr_⟩; (case fr_ => (simp only [Addr.add_lit, Nat.zero_add]; rfl))))
                                case measure => have := HJ5.out; have := HK2.out; have := HJ54.out; have := HK4.out; omega
                                case rel => exact ⟨(t357), (wrap64 (x15_4 + 1)), (by first | rfl | (simp; done) | (simp [*]; done)), (by first | rfl | (simp; done) | (simp [*]; done)), H', ⟨by have := HJ5.out; have := HK2.out; have := HJ54.out; have := HK4.out; omega⟩, ⟨by (with_reducible repeat (first | apply Kd.V_alloc | apply Kd.V_drewN | apply Kd.V_drew)); exact HO_7.out⟩, ⟨by (with_reducible repeat (first | apply Kd.N_alloc | apply Kd.N_drewN | apply Kd.N_drew)); exact HO_9.out⟩, ⟨by (with_reducible repeat (first | apply Kd.V_alloc | apply Kd.V_drewN | apply Kd.V_drew)); exact HO_347003.out⟩, ⟨by (with_reducible repeat (first | refine blk_drewN ?_ _ | refine blk_drew ?_ | refine blk_alloc ?_ _)); exact BK327.out⟩, ⟨by (with_reducible repeat (first | refine blk_drewN ?_ _ | refine blk_drew ?_ | refine blk_alloc ?_ _)); exact BK346.out⟩, ⟨by repeat (first | (with_reducible first | exact HB.out | apply below_alloc | apply pw_below_drewN | apply below_drew1 | refine below_set ?_ GE327.out | refine below_set ?_ GE346.out) | exact HB.out)⟩⟩
                              · rw [if_neg c72] at H
                                exact absurd H (by simp)
                          · rw [if_neg c68] at H
                            have c68b0 : decide (x15_4 < (x9_2.length : Int)) = false := decide_eq_false c68
                            clear c68
                            have H' := Aside0.mk H
                            clear H
                            obtain ⟨Ao77, co77, eo77⟩ := Kd.N_slice HO_9.out
                            subst eo77
                            go_wp2
                            go_loopg [16, 17, 18, 19] k4 (fun kq v16 v17 v18 v19 w' => ∃ (x16_5 : List (S25)) (x17_5 : Int) (x18_5 : List (S25)) (x19_5 : Int), v17 = .int .i64 x17_5 ∧ v19 = .int .i64 x19_5 ∧ Aside0 (affidavitlaw20_QueueOrder.l2 kq l2 x9_2 x14_4 x16_5 x17_5 x18_5 x19_5 = some r) ∧ Aside0 (kq ≤ k4) ∧ Aside0 (Kd.N k25 25 w' w.heap.size (fun k_ => some k_ ≠ (v16 : Value).ownBlock ∧ k_ ≠ gb327 ∧ k_ ≠ gb346) (.slice Ao77 x9_2.length co77) x9_2) ∧ Aside0 (Kd.N k25 25 w' w.heap.size (fun k_ => some k_ ≠ ((.slice Ao77 x9_2.length co77) : Value).ownBlock ∧ k_ ≠ gb327 ∧ k_ ≠ gb346) v16 x16_5) ∧ Aside0 (Kd.V k25 25 w' w.heap.size (fun k_ => some k_ ≠ ((.slice Ao77 x9_2.length co77) : Value).ownBlock ∧ some k_ ≠ (v16 : Value).ownBlock ∧ k_ ≠ gb327 ∧ k_ ≠ gb346) v18 x18_5) ∧ Aside0 (Kd.V (Kd.int .u8) 5 w' w.heap.size (fun k_ => some k_ ≠ ((.slice Ao77 x9_2.length co77) : Value).ownBlock ∧ some k_ ≠ (v16 : Value).ownBlock ∧ k_ ≠ gb327 ∧ k_ ≠ gb346) (.slice Ao61 t339.length co61) t339) ∧ Aside0 (w'.heap[gb327]? = some (.cells #[.int .i64 a1_0, .int .i64 a1_1, .int .i64 a1_2, (.slice A1_3 l1_3.length c1_3)] 25 (0, 0))) ∧ Aside0 (w'.heap[gb346]? = some (.cells #[.int .i64 t336, .int .i64 t337, .int .i64 t338, (.slice Ao61 t339.length co61)] 25 (0, 0))) ∧ Aside0 (Below w.heap.size w w'))
                            case atStart => exact ⟨(([] : List (S25))), (0), (t330), (0), (by first | rfl | (simp; done) | (simp [*]; done)), (by first | rfl | (simp; done) | (simp [*]; done)), H', ⟨Nat.le_refl _⟩, ⟨by (with_reducible repeat (first | apply Kd.N_alloc | apply Kd.N_drewN | apply Kd.N_drew)); exact Kd.N_mono HO_9.out (fun _ hk => ⟨(by simp [Value.ownBlock]), ⟨hk.1, hk.2⟩⟩)⟩, ⟨by first | exact Kd.S_nil _ _ _ _ _ | exact Kd.N_nil _ _ _ _ _ | exact Kd.V_nil _ _ _ _ _ | exact Kd.Q_nil _ _ _ _ _ | exact Kd.R_nil _ _ _ _ _⟩, ⟨by (with_reducible repeat (first | apply Kd.V_alloc | apply Kd.V_drewN | apply Kd.V_drew)); exact Kd.V_mono HO_7.out (fun _ hk => ⟨hk.1, ⟨(by simp [Value.ownBlock]), ⟨hk.2.1, hk.2.2⟩⟩⟩)⟩, ⟨by (with_reducible repeat (first | apply Kd.V_alloc | apply Kd.V_drewN | apply Kd.V_drew)); exact Kd.V_mono HO_347003.out (fun _ hk => ⟨hk.1, ⟨(by simp [Value.ownBlock]), ⟨hk.2.1, hk.2.2⟩⟩⟩)⟩, ⟨by (with_reducible repeat (first | refine blk_drewN ?_ _ | refine blk_drew ?_ | refine blk_alloc ?_ _)); exact BK327.out⟩, ⟨by (with_reducible repeat (first | refine blk_drewN ?_ _ | refine blk_drew ?_ | refine blk_alloc ?_ _)); exact BK346.out⟩, ⟨by repeat (first | (with_reducible first | exact HB.out | apply below_alloc | apply pw_below_drewN | apply below_drew1 | refine below_set ?_ GE327.out | refine below_set ?_ GE346.out) | exact HB.out)⟩⟩
                            case round =>
                              clear H'
                              try clear c1
                              try clear c2
                              try clear p2
                              try clear c3
                              try clear p3
                              try clear q3
                              try clear hx3
                              try clear c4
                              try clear c5
                              try clear c6
                              try clear p6
                              try clear c7
                              try clear c13
                              try clear c15
                              try clear c19
                              try clear c20
                              try clear c20b0
                              try clear c20b1
                              try clear c22
                              try clear c23
                              try clear c26
                              try clear c27
                              try clear c34
                              try clear p34
                              try clear q34
                              try clear hx34
                              try clear c35
                              try clear p35
                              try clear q35
                              try clear hx35
                              try clear c41
                              try clear c41b0
                              try clear c41b1
                              try clear c42
                              try clear c46
                              try clear c59
                              try clear c62
                              try clear c62b0
                              try clear c62b1
                              try clear p64
                              try clear c67
                              try clear c68
                              try clear c68b0
                              try clear c69
                              try clear c72
                              try clear c72b0
                              try clear hcz39_0
                              try clear hcz39_1
                              try clear hcz39_2
                              try clear hcz39_3
                              try clear hcz47_0
                              try clear hcz47_1
                              try clear hcz47_2
                              try clear hcz47_3
                              try clear hcz53_0
                              try clear hcz53_1
                              try clear hcz53_2
                              try clear hcz53_3
                              try clear hcz60_0
                              try clear hcz60_1
                              try clear hcz60_2
                              try clear hcz60_3
                              try clear hfz39_0
                              try clear hfz39_1
                              try clear hfz39_2
                              try clear hfz39_3
                              try clear hfz47_0
                              try clear hfz47_1
                              try clear hfz47_2
                              try clear hfz47_3
                              try clear hfz53_0
                              try clear hfz53_1
                              try clear hfz53_2
                              try clear hfz53_3
                              try clear hfz60_0
                              try clear hfz60_1
                              try clear hfz60_2
                              try clear hfz60_3
                              try clear hx347_0
                              try clear hx347_1
                              try clear hx347_2
                              try clear hx347_3
                              try clear hx356_0
                              try clear hx356_1
                              try clear hx356_2
                              try clear hx356_3
                              try clear p2
                              try clear p3
                              try clear p34
                              try clear p347
                              try clear p356
                              try clear p6
                              try clear p64
                              try clear q3
                              try clear q34
                              try clear q347
                              try clear q356
                              obtain ⟨x16_5, x17_5, x18_5, x19_5, rfl, rfl, HA, HK5, HO_9, HO_16, HO_18, HO_347003, BK327, BK346, HB⟩ := hrel
                              cases gk with
                              | zero => exact absurd HA.out (by simp [affidavitlaw20_QueueOrder.l2])
                              | succ k5 =>
                                have H := HA.out
                                clear HA
                                simp only [affidavitlaw20_QueueOrder.l2] at H
                                by_cases c78 : x19_5 < (l2.length : Int)
                                · rw [if_pos c78] at H
                                  have c78b0 : decide (x19_5 < (l2.length : Int)) = true := decide_eq_true c78
                                  clear c78
                                  by_cases c79 : 0 ≤ x19_5
                                  · rw [if_pos c79] at H
                                    have c79b0 : decide (0 ≤ x19_5) = true := decide_eq_true c79
                                    clear c79
                                    replace H := Option.bind_eq_some_iff.mp H
                                    obtain ⟨⟨t363, t366⟩, A800, H⟩ := H
                                    replace H : (affidavitlaw20_QueueOrder.l3 k5 l2 x9_2 x14_4 x16_5 (wrap64 (x17_5 + (wrap64 (rd l2 x19_5)))) x19_5 t363 t366 0) = some r := H
                                    have A80 := Aside0.mk A800
                                    clear A800
                                    have H' := Aside0.mk H
                                    clear H
                                    have p362 : 0 ≤ (x19_5 : Int) := of_decide_eq_true (by first | (with_reducible assumption) | assumption)
                                    have q362 : x19_5 < (l2.length : Int) := of_decide_eq_true (by first | (with_reducible assumption) | assumption)
                                    obtain ⟨ad362, e362, hx362_0⟩ := Kd.at_int HR2.out x19_5 p362 q362
                                    cases e362
                                    replace hx362_0 := (HB.out.cell (World.block_lt_of_cell? w _ hx362_0)).trans hx362_0
                                    replace p362 := eq_true p362
                                    replace q362 := eq_true q362
                                    obtain ⟨Ao81, co81, eo81⟩ := Kd.V_slice HO_18.out
                                    subst eo81
                                    go_wp2_with (first | ((with_reducible refine gate_callee (f := 11) rfl ?_); refine goesL_ (some 119) rfl rfl Try.func11 (by kernel_rfl) rfl #[.slice Ao81 x18_5.length co81, .int .i64 (wrap64 (x17_5 + (wrap64 (rd l2 x19_5))))] rfl (by (try simp only [List.map_toArray, List.map_cons, List.map_nil]); first | done | rfl | (simp only [List.length_drop, List.length_take]; rfl)) ?_; (with_reducible refine (queue_Due.calls _ _ x18_5 (wrap64 (x17_5 + (wrap64 (rd l2 x19_5)))) t363 t366 _ ?side1 ?side2 A80.out).mono ?_); (case side1 => repeat (first | exact (Kd.V_reads' HO_18.out).2.2 | (with_reducible refine Kd.C_alloc ?_ _) | (with_reducible refine Kd.C_drewN ?_ _) | (with_reducible refine Kd.C_drew ?_))); (case side2 => exact (Kd.V_reads' HO_18.out).2.1); rintro e w82 ⟨v364, v367, rfl, ho0, ho1, hb⟩; refine ⟨_, rfl, ?_⟩; have n0_ := Aside0.mk (Kd.N_below (by (with_reducible repeat (first | apply Kd.N_alloc | apply Kd.N_drewN | apply Kd.N_drew)); exact HO_9.out) hb); have n1_ := Aside0.mk (Kd.N_below (by (with_reducible repeat (first | apply Kd.N_alloc | apply Kd.N_drewN | apply Kd.N_drew)); exact HO_16.out) hb); have n2_ := Aside0.mk (Kd.V_below (by (with_reducible repeat (first | apply Kd.V_alloc | apply Kd.V_drewN | apply Kd.V_drew)); exact HO_18.out) hb); have n3_ := Aside0.mk (Kd.V_below (by (with_reducible repeat (first | apply Kd.V_alloc | apply Kd.V_drewN | apply Kd.V_drew)); exact HO_347003.out) hb); have n4_ := Aside0.mk (Kd.V_lower (Kd.V_mono (ok' := fun k_ => some k_ ≠ (.slice Ao77 x9_2.length co77 : Value).ownBlock ∧ some k_ ≠ (u16 : Value).ownBlock ∧ k_ ≠ gb327 ∧ k_ ≠ gb346) ho0 (fun k_ hk_ => ⟨(Kd.fresh' (Kd.N_lt (by (with_reducible repeat (first | apply Kd.N_alloc | apply Kd.N_drewN | apply Kd.N_drew)); exact HO_9.out)) k_ hk_), (Kd.fresh' (Kd.N_lt (by (with_reducible repeat (first | apply Kd.N_alloc | apply Kd.N_drewN | apply Kd.N_drew)); exact HO_16.out)) k_ hk_), (Kd.freshB (g := gb327) (o := .cells #[.int .i64 a1_0, .int .i64 a1_1, .int .i64 a1_2, .slice A1_3 l1_3.length c1_3] 25 (0, 0)) (by (with_reducible repeat (first | refine blk_drewN ?_ _ | refine blk_drew ?_ | refine blk_alloc ?_ _)); exact BK327.out) k_ hk_), (Kd.freshB (g := gb346) (o := .cells #[.int .i64 t336, .int .i64 t337, .int .i64 t338, .slice Ao61 t339.length co61] 25 (0, 0)) (by (with_reducible repeat (first | refine blk_drewN ?_ _ | refine blk_drew ?_ | refine blk_alloc ?_ _)); exact BK346.out) k_ hk_)⟩)) (below_size (by repeat (first | (with_reducible first | exact HB.out | apply below_alloc | apply pw_below_drewN | apply below_drew1 | refine below_set ?_ GE327.out | refine below_set ?_ GE346.out) | exact HB.out)))); have n5_ := Aside0.mk (Kd.V_lower (Kd.V_mono (ok' := fun k_ => some k_ ≠ (.slice Ao77 x9_2.length co77 : Value).ownBlock ∧ some k_ ≠ (u16 : Value).ownBlock ∧ k_ ≠ gb327 ∧ k_ ≠ gb346) ho1 (fun k_ hk_ => ⟨(Kd.fresh' (Kd.N_lt (by (with_reducible repeat (first | apply Kd.N_alloc | apply Kd.N_drewN | apply Kd.N_drew)); exact HO_9.out)) k_ hk_), (Kd.fresh' (Kd.N_lt (by (with_reducible repeat (first | apply Kd.N_alloc | apply Kd.N_drewN | apply Kd.N_drew)); exact HO_16.out)) k_ hk_), (Kd.freshB (g := gb327) (o := .cells #[.int .i64 a1_0, .int .i64 a1_1, .int .i64 a1_2, .slice A1_3 l1_3.length c1_3] 25 (0, 0)) (by (with_reducible repeat (first | refine blk_drewN ?_ _ | refine blk_drew ?_ | refine blk_alloc ?_ _)); exact BK327.out) k_ hk_), (Kd.freshB (g := gb346) (o := .cells #[.int .i64 t336, .int .i64 t337, .int .i64 t338, .slice Ao61 t339.length co61] 25 (0, 0)) (by (with_reducible repeat (first | refine blk_drewN ?_ _ | refine blk_drew ?_ | refine blk_alloc ?_ _)); exact BK346.out) k_ hk_)⟩)) (below_size (by repeat (first | (with_reducible first | exact HB.out | apply below_alloc | apply pw_below_drewN | apply below_drew1 | refine below_set ?_ GE327.out | refine below_set ?_ GE346.out) | exact HB.out)))); have n6_ := Aside0.mk (blk_below (g := gb327) (o := .cells #[.int .i64 a1_0, .int .i64 a1_1, .int .i64 a1_2, .slice A1_3 l1_3.length c1_3] 25 (0, 0)) (by (with_reducible repeat (first | refine blk_drewN ?_ _ | refine blk_drew ?_ | refine blk_alloc ?_ _)); exact BK327.out) hb); have n7_ := Aside0.mk (blk_below (g := gb346) (o := .cells #[.int .i64 t336, .int .i64 t337, .int .i64 t338, .slice Ao61 t339.length co61] 25 (0, 0)) (by (with_reducible repeat (first | refine blk_drewN ?_ _ | refine blk_drew ?_ | refine blk_alloc ?_ _)); exact BK346.out) hb); have n8_ := Aside0.mk (below_step (by repeat (first | (with_reducible first | exact HB.out | apply below_alloc | apply pw_below_drewN | apply below_drew1 | refine below_set ?_ GE327.out | refine below_set ?_ GE346.out) | exact HB.out)) hb); clear HO_9; clear HO_16; clear HO_18; clear HO_347003; clear BK327; clear BK346; clear HB; have HO_9 := n0_; have HO_16 := n1_; have HO_18 := n2_; have HO_347003 := n3_; have HO365 := n4_; have HO368 := n5_; have BK327 := n6_; have BK346 := n7_; have HB := n8_; clear n0_ n1_ n2_ n3_ n4_ n5_ n6_ n7_ n8_; (try clear hb); (try clear hb2); (try clear hk); (try clear hi); (try clear ho0); (try clear ho1)))
                                    go_loopg [22] k5 (fun kq v22 w' => ∃ (x22_6 : Int), v22 = .int .i64 x22_6 ∧ Aside0 (affidavitlaw20_QueueOrder.l3 kq l2 x9_2 x14_4 x16_5 (wrap64 (x17_5 + (wrap64 (rd l2 x19_5)))) x19_5 t363 t366 x22_6 = some r) ∧ Aside0 (kq ≤ k5) ∧ Aside0 (Kd.N k25 25 w' w.heap.size (fun k_ => some k_ ≠ (u16 : Value).ownBlock ∧ k_ ≠ gb327 ∧ k_ ≠ gb346) (.slice Ao77 x9_2.length co77) x9_2) ∧ Aside0 (Kd.N k25 25 w' w.heap.size (fun k_ => some k_ ≠ ((.slice Ao77 x9_2.length co77) : Value).ownBlock ∧ k_ ≠ gb327 ∧ k_ ≠ gb346) u16 x16_5) ∧ Aside0 (Kd.V k25 25 w' w.heap.size (fun k_ => some k_ ≠ ((.slice Ao77 x9_2.length co77) : Value).ownBlock ∧ some k_ ≠ (u16 : Value).ownBlock ∧ k_ ≠ gb327 ∧ k_ ≠ gb346) v364 t363) ∧ Aside0 (Kd.V k25 25 w' w.heap.size (fun k_ => some k_ ≠ ((.slice Ao77 x9_2.length co77) : Value).ownBlock ∧ some k_ ≠ (u16 : Value).ownBlock ∧ k_ ≠ gb327 ∧ k_ ≠ gb346) v367 t366) ∧ Aside0 (Kd.V (Kd.int .u8) 5 w' w.heap.size (fun k_ => some k_ ≠ ((.slice Ao77 x9_2.length co77) : Value).ownBlock ∧ some k_ ≠ (u16 : Value).ownBlock ∧ k_ ≠ gb327 ∧ k_ ≠ gb346) (.slice Ao61 t339.length co61) t339) ∧ Aside0 (w'.heap[gb327]? = some (.cells #[.int .i64 a1_0, .int .i64 a1_1, .int .i64 a1_2, (.slice A1_3 l1_3.length c1_3)] 25 (0, 0))) ∧ Aside0 (w'.heap[gb346]? = some (.cells #[.int .i64 t336, .int .i64 t337, .int .i64 t338, (.slice Ao61 t339.length co61)] 25 (0, 0))) ∧ Aside0 (Below w.heap.size w w'))
                                    case atStart => exact ⟨(0), (by first | rfl | (simp; done) | (simp [*]; done)), H', ⟨Nat.le_refl _⟩, ⟨by (with_reducible repeat (first | apply Kd.N_alloc | apply Kd.N_drewN | apply Kd.N_drew)); exact HO_9.out⟩, ⟨by (with_reducible repeat (first | apply Kd.N_alloc | apply Kd.N_drewN | apply Kd.N_drew)); exact HO_16.out⟩, ⟨by (with_reducible repeat (first | apply Kd.V_alloc | apply Kd.V_drewN | apply Kd.V_drew)); exact HO365.out⟩, ⟨by (with_reducible repeat (first | apply Kd.V_alloc | apply Kd.V_drewN | apply Kd.V_drew)); exact HO368.out⟩, ⟨by (with_reducible repeat (first | apply Kd.V_alloc | apply Kd.V_drewN | apply Kd.V_drew)); exact HO_347003.out⟩, ⟨by (with_reducible repeat (first | refine blk_drewN ?_ _ | refine blk_drew ?_ | refine blk_alloc ?_ _)); exact BK327.out⟩, ⟨by (with_reducible repeat (first | refine blk_drewN ?_ _ | refine blk_drew ?_ | refine blk_alloc ?_ _)); exact BK346.out⟩, ⟨by repeat (first | (with_reducible first | exact HB.out | apply below_alloc | apply pw_below_drewN | apply below_drew1 | refine below_set ?_ GE327.out | refine below_set ?_ GE346.out) | exact HB.out)⟩⟩
                                    case round =>
                                      clear H'
                                      try clear c1
                                      try clear c2
                                      try clear p2
                                      try clear c3
                                      try clear p3
                                      try clear q3
                                      try clear hx3
                                      try clear c4
                                      try clear c5
                                      try clear c6
                                      try clear p6
                                      try clear c7
                                      try clear c11
                                      try clear c13
                                      try clear c15
                                      try clear c19
                                      try clear c20
                                      try clear c20b0
                                      try clear c20b1
                                      try clear c22
                                      try clear c23
                                      try clear c26
                                      try clear c27
                                      try clear c34
                                      try clear p34
                                      try clear q34
                                      try clear hx34
                                      try clear c35
                                      try clear p35
                                      try clear q35
                                      try clear hx35
                                      try clear p36
                                      try clear q36
                                      try clear hx36
                                      try clear c41
                                      try clear c41b0
                                      try clear c41b1
                                      try clear c42
                                      try clear c46
                                      try clear c59
                                      try clear c62
                                      try clear c62b0
                                      try clear c62b1
                                      try clear p64
                                      try clear c67
                                      try clear c68
                                      try clear c68b0
                                      try clear c69
                                      try clear c72
                                      try clear c72b0
                                      try clear c78
                                      try clear c78b0
                                      try clear c79
                                      try clear c79b0
                                      try clear hcz39_0
                                      try clear hcz39_1
                                      try clear hcz39_2
                                      try clear hcz39_3
                                      try clear hcz47_0
                                      try clear hcz47_1
                                      try clear hcz47_2
                                      try clear hcz47_3
                                      try clear hcz53_0
                                      try clear hcz53_1
                                      try clear hcz53_2
                                      try clear hcz53_3
                                      try clear hcz60_0
                                      try clear hcz60_1
                                      try clear hcz60_2
                                      try clear hcz60_3
                                      try clear hfz39_0
                                      try clear hfz39_1
                                      try clear hfz39_2
                                      try clear hfz39_3
                                      try clear hfz47_0
                                      try clear hfz47_1
                                      try clear hfz47_2
                                      try clear hfz47_3
                                      try clear hfz53_0
                                      try clear hfz53_1
                                      try clear hfz53_2
                                      try clear hfz53_3
                                      try clear hfz60_0
                                      try clear hfz60_1
                                      try clear hfz60_2
                                      try clear hfz60_3
                                      try clear hx347_0
                                      try clear hx347_1
                                      try clear hx347_2
                                      try clear hx347_3
                                      try clear hx356_0
                                      try clear hx356_1
                                      try clear hx356_2
                                      try clear hx356_3
                                      try clear hx362_0
                                      try clear p2
                                      try clear p3
                                      try clear p34
                                      try clear p347
                                      try clear p35
                                      try clear p356
                                      try clear p362
                                      try clear p6
                                      try clear p64
                                      try clear q3
                                      try clear q34
                                      try clear q347
                                      try clear q35
                                      try clear q356
                                      try clear q362
                                      obtain ⟨x22_6, rfl, HA, HK6, HO_9, HO_16, HO_20, HO_21, HO_347003, BK327, BK346, HB⟩ := hrel
                                      cases gk with
                                      | zero => exact absurd HA.out (by simp [affidavitlaw20_QueueOrder.l3])
                                      | succ k6 =>
                                        have H := HA.out
                                        clear HA
                                        simp only [affidavitlaw20_QueueOrder.l3] at H
                                        by_cases c83 : x22_6 < (t363.length : Int)
                                        · rw [if_pos c83] at H
                                          have c83b0 : decide (x22_6 < (t363.length : Int)) = true := decide_eq_true c83
                                          clear c83
                                          by_cases c84 : 0 ≤ x22_6
                                          · rw [if_pos c84] at H
                                            have c84b0 : decide (0 ≤ x22_6) = true := decide_eq_true c84
                                            clear c84
                                            by_cases c85 : ((rd_T25 t363 x22_6).f0) > (wrap64 (x17_5 + (wrap64 (rd l2 x19_5))))
                                            · rw [if_pos c85] at H
                                              exact absurd H (by simp)
                                            · rw [if_neg c85] at H
                                              have c85b0 : decide ((wrap64 (x17_5 + (wrap64 (rd l2 x19_5)))) < ((rd_T25 t363 x22_6).f0)) = false := decide_eq_false c85
                                              clear c85
                                              have H' := Aside0.mk H
                                              clear H
                                              obtain ⟨Ao86, co86, eo86⟩ := Kd.V_slice HO_20.out
                                              subst eo86
                                              have p369 : 0 ≤ (x22_6 : Int) := of_decide_eq_true (by first | (with_reducible assumption) | assumption)
                                              have q369 : x22_6 < (t363.length : Int) := of_decide_eq_true (by first | (with_reducible assumption) | assumption)
                                              obtain ⟨ad369, A369_3, c369_3, e369, hx369_0, hx369_1, hx369_2, hx369_3, hl369_3, hi369_3⟩ := at_T25 (Kd.V_reads' HO_20.out).2.2 x22_6 p369 q369
                                              cases e369
                                              obtain ⟨ce369, hce369, hMe369, hcc369⟩ := Kd.V_get HO_20.out z25 x22_6 p369 (by first | exact q369 | exact of_decide_eq_true (by first | (with_reducible assumption) | assumption) | (have e_ := (Kd.V_reads' HO_20.out).1; omega))
                                              obtain ⟨ua369_3, uc369_3, rfl, ul369_3, ge369_3⟩ := k25_openF hMe369
                                              have hv369_3 := hcc369 3 _ rfl
                                              rw [add_field _ _ 3 (by omega)] at hv369_3
                                              replace hv369_3 := Option.some.inj (hv369_3.symm.trans hx369_3)
                                              injection hv369_3 with hva_ hvn_ hvc_
                                              rw [hva_] at ge369_3
                                              rw [hvc_] at ul369_3
                                              have HL369_3 := Aside0.mk (show Kd.V (Kd.int .u8) 5 _ w.heap.size _ _ ((rd_T25 t363 x22_6).f3) from Kd.V_mk ul369_3 ge369_3)
                                              clear hva_ hvn_ hvc_ ge369_3 ul369_3
                                              clear hcc369 hce369
                                              have HR369_3 := Aside0.mk hi369_3
                                              have HC369_3 := Aside0.mk hl369_3
                                              clear hi369_3 hl369_3
                                              replace p369 := eq_true p369
                                              replace q369 := eq_true q369
                                              go_wp2
                                              (first | go_roundg k6 | (refine Handed.intro k6 ?measure ?_; rotate_left; go_step; (repeat apply Exists.intro); refine ⟨?rel, ?fr_⟩; (case fr_ => (simp only [Addr.add_lit, Nat.zero_add]; rfl))))
                                              case measure => have := HJ5.out; have := HK2.out; have := HJ54.out; have := HK4.out; have := HK5.out; have := HK6.out; omega
                                              case rel => exact ⟨(wrap64 (x22_6 + 1)), (by first | rfl | (simp; done) | (simp [*]; done)), H', ⟨by have := HJ5.out; have := HK2.out; have := HJ54.out; have := HK4.out; have := HK5.out; have := HK6.out; omega⟩, ⟨by (with_reducible repeat (first | apply Kd.N_alloc | apply Kd.N_drewN | apply Kd.N_drew)); exact HO_9.out⟩, ⟨by (with_reducible repeat (first | apply Kd.N_alloc | apply Kd.N_drewN | apply Kd.N_drew)); exact HO_16.out⟩, ⟨by (with_reducible repeat (first | apply Kd.V_alloc | apply Kd.V_drewN | apply Kd.V_drew)); exact HO_20.out⟩, ⟨by (with_reducible repeat (first | apply Kd.V_alloc | apply Kd.V_drewN | apply Kd.V_drew)); exact HO_21.out⟩, ⟨by (with_reducible repeat (first | apply Kd.V_alloc | apply Kd.V_drewN | apply Kd.V_drew)); exact HO_347003.out⟩, ⟨by (with_reducible repeat (first | refine blk_drewN ?_ _ | refine blk_drew ?_ | refine blk_alloc ?_ _)); exact BK327.out⟩, ⟨by (with_reducible repeat (first | refine blk_drewN ?_ _ | refine blk_drew ?_ | refine blk_alloc ?_ _)); exact BK346.out⟩, ⟨by repeat (first | (with_reducible first | exact HB.out | apply below_alloc | apply pw_below_drewN | apply below_drew1 | refine below_set ?_ GE327.out | refine below_set ?_ GE346.out) | exact HB.out)⟩⟩
                                          · rw [if_neg c84] at H
                                            exact absurd H (by simp)
                                        · rw [if_neg c83] at H
                                          have c83b0 : decide (x22_6 < (t363.length : Int)) = false := decide_eq_false c83
                                          clear c83
                                          replace H := Option.bind_eq_some_iff.mp H
                                          obtain ⟨⟨t370, t371⟩, A870, H⟩ := H
                                          replace H : (if t371 = true then (if t370 ≤ (wrap64 (x17_5 + (wrap64 (rd l2 x19_5)))) then (none) else (if x16_5.length + t363.length < 2932031007402 then (affidavitlaw20_QueueOrder.l2 k6 l2 x9_2 x14_4 (x16_5 ++ t363) (wrap64 (x17_5 + (wrap64 (rd l2 x19_5)))) t366 (wrap64 (x19_5 + 1))) else (none))) else (if x16_5.length + t363.length < 2932031007402 then (affidavitlaw20_QueueOrder.l2 k6 l2 x9_2 x14_4 (x16_5 ++ t363) (wrap64 (x17_5 + (wrap64 (rd l2 x19_5)))) t366 (wrap64 (x19_5 + 1))) else (none))) = some r := H
                                          have A87 := Aside0.mk A870
                                          clear A870
                                          by_cases c88 : t371 = true
                                          · subst c88
                                            have H1 : (if t370 ≤ (wrap64 (x17_5 + (wrap64 (rd l2 x19_5)))) then (none) else (if x16_5.length + t363.length < 2932031007402 then (affidavitlaw20_QueueOrder.l2 k6 l2 x9_2 x14_4 (x16_5 ++ t363) (wrap64 (x17_5 + (wrap64 (rd l2 x19_5)))) t366 (wrap64 (x19_5 + 1))) else (none))) = some r := by rw [if_pos rfl] at H; exact H
                                            clear H
                                            have H := H1
                                            clear H1
                                            by_cases c89 : t370 ≤ (wrap64 (x17_5 + (wrap64 (rd l2 x19_5))))
                                            · rw [if_pos c89] at H
                                              exact absurd H (by simp)
                                            · rw [if_neg c89] at H
                                              have c89b0 : decide (t370 ≤ (wrap64 (x17_5 + (wrap64 (rd l2 x19_5))))) = false := decide_eq_false c89
                                              clear c89
                                              by_cases c90 : x16_5.length + t363.length < 2932031007402
                                              · rw [if_pos c90] at H
                                                have LMc90 := Aside0.mk c90
                                                clear c90
                                                obtain ⟨y372, hy372⟩ : ∃ y_ : List (S25), y_ = (x16_5 ++ t363) := ⟨_, rfl⟩
                                                replace H : (affidavitlaw20_QueueOrder.l2 k6 l2 x9_2 x14_4 y372 (wrap64 (x17_5 + (wrap64 (rd l2 x19_5)))) t366 (wrap64 (x19_5 + 1))) = some r := by first | (rw [hy372]; with_reducible exact H) | (have H2_ := (Option.bind_some _ _).symm.trans H; rw [hy372]; with_reducible exact H2_) | (have H2_ := (Option.bind_some _ _).symm.trans H; with_reducible exact H2_) | with_reducible exact H | (rw [hy372]; exact H) | exact H
                                                have Ny372 := Aside0.mk hy372
                                                clear hy372
                                                have H' := Aside0.mk H
                                                clear H
                                                obtain ⟨Ao91, co91, eo91⟩ := Kd.V_slice HO_20.out
                                                subst eo91
                                                obtain ⟨Ao92, co92, eo92⟩ := Kd.V_slice HO_21.out
                                                subst eo92
                                                go_wp2_with (first | ((with_reducible refine gate_callee (f := 14) rfl ?_); refine goesL_ (some 137) rfl rfl Try.func14 (by kernel_rfl) rfl #[.slice Ao92 t366.length co92] rfl (by (try simp only [List.map_toArray, List.map_cons, List.map_nil]); first | done | rfl | (simp only [List.length_drop, List.length_take]; rfl)) ?_; (with_reducible refine (queue_Next.calls _ _ t366 t370 true _ ?side1 ?side2 A87.out).mono ?_); (case side1 => repeat (first | exact (Kd.V_reads' HO_21.out).2.2 | (with_reducible refine Kd.C_alloc ?_ _) | (with_reducible refine Kd.C_drewN ?_ _) | (with_reducible refine Kd.C_drew ?_))); (case side2 => exact (Kd.V_reads' HO_21.out).2.1); rintro e w93 ⟨rfl, hb⟩; refine ⟨_, rfl, ?_⟩; have n0_ := Aside0.mk (Kd.N_below (by (with_reducible repeat (first | apply Kd.N_alloc | apply Kd.N_drewN | apply Kd.N_drew)); exact HO_9.out) hb); have n1_ := Aside0.mk (Kd.N_below (by (with_reducible repeat (first | apply Kd.N_alloc | apply Kd.N_drewN | apply Kd.N_drew)); exact HO_16.out) hb); have n2_ := Aside0.mk (Kd.V_below (by (with_reducible repeat (first | apply Kd.V_alloc | apply Kd.V_drewN | apply Kd.V_drew)); exact HO_20.out) hb); have n3_ := Aside0.mk (Kd.V_below (by (with_reducible repeat (first | apply Kd.V_alloc | apply Kd.V_drewN | apply Kd.V_drew)); exact HO_21.out) hb); have n4_ := Aside0.mk (Kd.V_below (by (with_reducible repeat (first | apply Kd.V_alloc | apply Kd.V_drewN | apply Kd.V_drew)); exact HO_347003.out) hb); have n5_ := Aside0.mk (blk_below (g := gb327) (o := .cells #[.int .i64 a1_0, .int .i64 a1_1, .int .i64 a1_2, .slice A1_3 l1_3.length c1_3] 25 (0, 0)) (by (with_reducible repeat (first | refine blk_drewN ?_ _ | refine blk_drew ?_ | refine blk_alloc ?_ _)); exact BK327.out) hb); have n6_ := Aside0.mk (blk_below (g := gb346) (o := .cells #[.int .i64 t336, .int .i64 t337, .int .i64 t338, .slice Ao61 t339.length co61] 25 (0, 0)) (by (with_reducible repeat (first | refine blk_drewN ?_ _ | refine blk_drew ?_ | refine blk_alloc ?_ _)); exact BK346.out) hb); have n7_ := Aside0.mk (below_step (by repeat (first | (with_reducible first | exact HB.out | apply below_alloc | apply pw_below_drewN | apply below_drew1 | refine below_set ?_ GE327.out | refine below_set ?_ GE346.out) | exact HB.out)) hb); clear HO_9; clear HO_16; clear HO_20; clear HO_21; clear HO_347003; clear BK327; clear BK346; clear HB; have HO_9 := n0_; have HO_16 := n1_; have HO_20 := n2_; have HO_21 := n3_; have HO_347003 := n4_; have BK327 := n5_; have BK346 := n6_; have HB := n7_; clear n0_ n1_ n2_ n3_ n4_ n5_ n6_ n7_; (try clear hb); (try clear hb2); (try clear hk); (try clear hi)) | ((with_reducible refine gate_builtin (b := .append) (xs := #[.tmp 146, .tmp 147]) rfl ?_); (try (refine gate_guard (by rfl) ?_; dsimp only)); at_builtin; refine Kd.N_append_rows k25 (w0 := w) w.heap.size rfl (.tmp 146) (.tmp 147) 22 25 (.agg #[(.int .i64 0), (.int .i64 0), (.int .i64 0), (.slice none 0 0)]) 48 rfl Try.underlying22 info25 rfl (by decide) (by omega) u16 x16_5 t363 _ _ _ (fun k_ => some k_ ≠ (.slice Ao77 x9_2.length co77 : Value).ownBlock ∧ k_ ≠ gb327 ∧ k_ ≠ gb346) (fun k_ => ((fun k_ => some k_ ≠ (.slice Ao77 x9_2.length co77 : Value).ownBlock ∧ k_ ≠ gb327 ∧ k_ ≠ gb346)) k_ ∧ some k_ ≠ (u16 : Value).ownBlock) rfl rfl ?aO ?aR (fun _ hk => hk) ?aF ?aB ?aS ?aL ?_; (case aR => exact (by skip; exact Kd.V_F (Kd.V_mono (ok' := (fun k_ => ((fun k_ => some k_ ≠ (.slice Ao77 x9_2.length co77 : Value).ownBlock ∧ k_ ≠ gb327 ∧ k_ ≠ gb346)) k_ ∧ some k_ ≠ (u16 : Value).ownBlock)) (HO_20.out) (fun k_ hk => ⟨⟨hk.1, ⟨hk.2.2.1, hk.2.2.2⟩⟩, hk.2.1⟩)))); (case aB => exact (by repeat (first | (with_reducible first | exact HB.out | apply below_alloc | apply pw_below_drewN | apply below_drew1 | refine below_set ?_ GE327.out | refine below_set ?_ GE346.out) | exact HB.out))); (case aF => exact (fun k_ hk => ⟨Kd.fresh' (Kd.N_lt (by (with_reducible repeat (first | apply Kd.N_alloc | apply Kd.N_drewN | apply Kd.N_drew)); exact HO_9.out)) k_ hk, Kd.freshB (g := gb327) (o := .cells #[.int .i64 a1_0, .int .i64 a1_1, .int .i64 a1_2, .slice A1_3 l1_3.length c1_3] 25 (0, 0)) (by (with_reducible repeat (first | refine blk_drewN ?_ _ | refine blk_drew ?_ | refine blk_alloc ?_ _)); exact BK327.out) k_ hk, Kd.freshB (g := gb346) (o := .cells #[.int .i64 t336, .int .i64 t337, .int .i64 t338, .slice Ao61 t339.length co61] 25 (0, 0)) (by (with_reducible repeat (first | refine blk_drewN ?_ _ | refine blk_drew ?_ | refine blk_alloc ?_ _)); exact BK346.out) k_ hk⟩)); (case aO => exact (by (with_reducible repeat (first | apply Kd.N_alloc | apply Kd.N_drewN | apply Kd.N_drew)); exact HO_16.out)); (case aS => exact (below_size (by repeat (first | (with_reducible first | exact HB.out | apply below_alloc | apply pw_below_drewN | apply below_drew1 | refine below_set ?_ GE327.out | refine below_set ?_ GE346.out) | exact HB.out)))); (case aL => have := LMc90.out; omega); intro v373 w94 ho hb hg hat; rw [← Ny372.out] at ho; have n0_ := Aside0.mk (Kd.N_afterv (ok := (fun k_ => k_ ≠ gb327 ∧ k_ ≠ gb346)) (by (with_reducible repeat (first | apply Kd.N_alloc | apply Kd.N_drewN | apply Kd.N_drew)); exact Kd.N_mono HO_9.out (fun _ hk => ⟨⟨hk.2.1, hk.2.2⟩, hk.1⟩)) hg hat); have n1_ := Aside0.mk (Kd.V_afterv (ok := (fun k_ => some k_ ≠ (.slice Ao77 x9_2.length co77 : Value).ownBlock ∧ k_ ≠ gb327 ∧ k_ ≠ gb346)) (by (with_reducible repeat (first | apply Kd.V_alloc | apply Kd.V_drewN | apply Kd.V_drew)); exact Kd.V_mono HO_20.out (fun _ hk => ⟨⟨hk.1, ⟨hk.2.2.1, hk.2.2.2⟩⟩, hk.2.1⟩)) hg hat); have n2_ := Aside0.mk (Kd.V_afterv (ok := (fun k_ => some k_ ≠ (.slice Ao77 x9_2.length co77 : Value).ownBlock ∧ k_ ≠ gb327 ∧ k_ ≠ gb346)) (by (with_reducible repeat (first | apply Kd.V_alloc | apply Kd.V_drewN | apply Kd.V_drew)); exact Kd.V_mono HO_21.out (fun _ hk => ⟨⟨hk.1, ⟨hk.2.2.1, hk.2.2.2⟩⟩, hk.2.1⟩)) hg hat); have n3_ := Aside0.mk (Kd.V_afterv (ok := (fun k_ => some k_ ≠ (.slice Ao77 x9_2.length co77 : Value).ownBlock ∧ k_ ≠ gb327 ∧ k_ ≠ gb346)) (by (with_reducible repeat (first | apply Kd.V_alloc | apply Kd.V_drewN | apply Kd.V_drew)); exact Kd.V_mono HO_347003.out (fun _ hk => ⟨⟨hk.1, ⟨hk.2.2.1, hk.2.2.2⟩⟩, hk.2.1⟩)) hg hat); have n4_ := Aside0.mk (blk_grown (g := gb327) (o := .cells #[.int .i64 a1_0, .int .i64 a1_1, .int .i64 a1_2, .slice A1_3 l1_3.length c1_3] 25 (0, 0)) (by (with_reducible repeat (first | refine blk_drewN ?_ _ | refine blk_drew ?_ | refine blk_alloc ?_ _)); exact BK327.out) hg (Kd.N_away HO_16.out (fun _ hk => hk.2.1))); have n5_ := Aside0.mk (blk_grown (g := gb346) (o := .cells #[.int .i64 t336, .int .i64 t337, .int .i64 t338, .slice Ao61 t339.length co61] 25 (0, 0)) (by (with_reducible repeat (first | refine blk_drewN ?_ _ | refine blk_drew ?_ | refine blk_alloc ?_ _)); exact BK346.out) hg (Kd.N_away HO_16.out (fun _ hk => hk.2.2))); have n6_ := Aside0.mk (hb); have n7_ := Aside0.mk (ho); clear HO_9; clear HO_20; clear HO_21; clear HO_347003; clear BK327; clear BK346; clear HB; clear HO_16; have HO_9 := n0_; have HO_20 := n1_; have HO_21 := n2_; have HO_347003 := n3_; have BK327 := n4_; have BK346 := n5_; have HB := n6_; have HO374 := n7_; clear n0_ n1_ n2_ n3_ n4_ n5_ n6_ n7_; clear ho hb hg hat))
                                                (first | go_roundg k6 | (refine Handed.intro k6 ?measure ?_; rotate_left; go_step; (repeat apply Exists.intro); refine ⟨?rel, ?fr_⟩; (case fr_ => (simp only [Addr.add_lit, Nat.zero_add]; rfl))))
                                                case measure => have := HJ5.out; have := HK2.out; have := HJ54.out; have := HK4.out; have := HK5.out; have := HK6.out; omega
                                                case rel => exact ⟨(y372), ((wrap64 (x17_5 + (wrap64 (rd l2 x19_5))))), (t366), (wrap64 (x19_5 + 1)), (by first | rfl | (simp; done) | (simp [*]; done)), (by first | rfl | (simp; done) | (simp [*]; done)), H', ⟨by have := HJ5.out; have := HK2.out; have := HJ54.out; have := HK4.out; have := HK5.out; have := HK6.out; omega⟩, ⟨by (with_reducible repeat (first | apply Kd.N_alloc | apply Kd.N_drewN | apply Kd.N_drew)); exact Kd.N_mono HO_9.out (fun _ hk => ⟨hk.2, ⟨hk.1.1, hk.1.2⟩⟩)⟩, ⟨by (with_reducible repeat (first | apply Kd.N_alloc | apply Kd.N_drewN | apply Kd.N_drew)); exact HO374.out⟩, ⟨by (with_reducible repeat (first | apply Kd.V_alloc | apply Kd.V_drewN | apply Kd.V_drew)); exact Kd.V_mono HO_21.out (fun _ hk => ⟨hk.1.1, ⟨hk.2, ⟨hk.1.2.1, hk.1.2.2⟩⟩⟩)⟩, ⟨by (with_reducible repeat (first | apply Kd.V_alloc | apply Kd.V_drewN | apply Kd.V_drew)); exact Kd.V_mono HO_347003.out (fun _ hk => ⟨hk.1.1, ⟨hk.2, ⟨hk.1.2.1, hk.1.2.2⟩⟩⟩)⟩, ⟨by (with_reducible repeat (first | refine blk_drewN ?_ _ | refine blk_drew ?_ | refine blk_alloc ?_ _)); exact BK327.out⟩, ⟨by (with_reducible repeat (first | refine blk_drewN ?_ _ | refine blk_drew ?_ | refine blk_alloc ?_ _)); exact BK346.out⟩, ⟨by repeat (first | (with_reducible first | exact HB.out | apply below_alloc | apply pw_below_drewN | apply below_drew1 | refine below_set ?_ GE327.out | refine below_set ?_ GE346.out) | exact HB.out)⟩⟩
                                              · rw [if_neg c90] at H
                                                exact absurd H (by simp)
                                          · replace c88 := Bool.eq_false_iff.mpr c88
                                            subst c88
                                            have H1 : (if x16_5.length + t363.length < 2932031007402 then (affidavitlaw20_QueueOrder.l2 k6 l2 x9_2 x14_4 (x16_5 ++ t363) (wrap64 (x17_5 + (wrap64 (rd l2 x19_5)))) t366 (wrap64 (x19_5 + 1))) else (none)) = some r := by rw [if_neg (show ¬ (false = true) by decide)] at H; exact H
                                            clear H
                                            have H := H1
                                            clear H1
                                            by_cases c95 : x16_5.length + t363.length < 2932031007402
                                            · rw [if_pos c95] at H
                                              have LMc95 := Aside0.mk c95
                                              clear c95
                                              obtain ⟨y375, hy375⟩ : ∃ y_ : List (S25), y_ = (x16_5 ++ t363) := ⟨_, rfl⟩
                                              replace H : (affidavitlaw20_QueueOrder.l2 k6 l2 x9_2 x14_4 y375 (wrap64 (x17_5 + (wrap64 (rd l2 x19_5)))) t366 (wrap64 (x19_5 + 1))) = some r := by first | (rw [hy375]; with_reducible exact H) | (have H2_ := (Option.bind_some _ _).symm.trans H; rw [hy375]; with_reducible exact H2_) | (have H2_ := (Option.bind_some _ _).symm.trans H; with_reducible exact H2_) | with_reducible exact H | (rw [hy375]; exact H) | exact H
                                              have Ny375 := Aside0.mk hy375
                                              clear hy375
                                              have H' := Aside0.mk H
                                              clear H
                                              obtain ⟨Ao96, co96, eo96⟩ := Kd.V_slice HO_20.out
                                              subst eo96
                                              obtain ⟨Ao97, co97, eo97⟩ := Kd.V_slice HO_21.out
                                              subst eo97
                                              go_wp2_with (first | ((with_reducible refine gate_callee (f := 14) rfl ?_); refine goesL_ (some 137) rfl rfl Try.func14 (by kernel_rfl) rfl #[.slice Ao97 t366.length co97] rfl (by (try simp only [List.map_toArray, List.map_cons, List.map_nil]); first | done | rfl | (simp only [List.length_drop, List.length_take]; rfl)) ?_; (with_reducible refine (queue_Next.calls _ _ t366 t370 false _ ?side1 ?side2 A87.out).mono ?_); (case side1 => repeat (first | exact (Kd.V_reads' HO_21.out).2.2 | (with_reducible refine Kd.C_alloc ?_ _) | (with_reducible refine Kd.C_drewN ?_ _) | (with_reducible refine Kd.C_drew ?_))); (case side2 => exact (Kd.V_reads' HO_21.out).2.1); rintro e w98 ⟨rfl, hb⟩; refine ⟨_, rfl, ?_⟩; have n0_ := Aside0.mk (Kd.N_below (by (with_reducible repeat (first | apply Kd.N_alloc | apply Kd.N_drewN | apply Kd.N_drew)); exact HO_9.out) hb); have n1_ := Aside0.mk (Kd.N_below (by (with_reducible repeat (first | apply Kd.N_alloc | apply Kd.N_drewN | apply Kd.N_drew)); exact HO_16.out) hb); have n2_ := Aside0.mk (Kd.V_below (by (with_reducible repeat (first | apply Kd.V_alloc | apply Kd.V_drewN | apply Kd.V_drew)); exact HO_20.out) hb); have n3_ := Aside0.mk (Kd.V_below (by (with_reducible repeat (first | apply Kd.V_alloc | apply Kd.V_drewN | apply Kd.V_drew)); exact HO_21.out) hb); have n4_ := Aside0.mk (Kd.V_below (by (with_reducible repeat (first | apply Kd.V_alloc | apply Kd.V_drewN | apply Kd.V_drew)); exact HO_347003.out) hb); have n5_ := Aside0.mk (blk_below (g := gb327) (o := .cells #[.int .i64 a1_0, .int .i64 a1_1, .int .i64 a1_2, .slice A1_3 l1_3.length c1_3] 25 (0, 0)) (by (with_reducible repeat (first | refine blk_drewN ?_ _ | refine blk_drew ?_ | refine blk_alloc ?_ _)); exact BK327.out) hb); have n6_ := Aside0.mk (blk_below (g := gb346) (o := .cells #[.int .i64 t336, .int .i64 t337, .int .i64 t338, .slice Ao61 t339.length co61] 25 (0, 0)) (by (with_reducible repeat (first | refine blk_drewN ?_ _ | refine blk_drew ?_ | refine blk_alloc ?_ _)); exact BK346.out) hb); have n7_ := Aside0.mk (below_step (by repeat (first | (with_reducible first | exact HB.out | apply below_alloc | apply pw_below_drewN | apply below_drew1 | refine below_set ?_ GE327.out | refine below_set ?_ GE346.out) | exact HB.out)) hb); clear HO_9; clear HO_16; clear HO_20; clear HO_21; clear HO_347003; clear BK327; clear BK346; clear HB; have HO_9 := n0_; have HO_16 := n1_; have HO_20 := n2_; have HO_21 := n3_; have HO_347003 := n4_; have BK327 := n5_; have BK346 := n6_; have HB := n7_; clear n0_ n1_ n2_ n3_ n4_ n5_ n6_ n7_; (try clear hb); (try clear hb2); (try clear hk); (try clear hi)) | ((with_reducible refine gate_builtin (b := .append) (xs := #[.tmp 146, .tmp 147]) rfl ?_); (try (refine gate_guard (by rfl) ?_; dsimp only)); at_builtin; refine Kd.N_append_rows k25 (w0 := w) w.heap.size rfl (.tmp 146) (.tmp 147) 22 25 (.agg #[(.int .i64 0), (.int .i64 0), (.int .i64 0), (.slice none 0 0)]) 48 rfl Try.underlying22 info25 rfl (by decide) (by omega) u16 x16_5 t363 _ _ _ (fun k_ => some k_ ≠ (.slice Ao77 x9_2.length co77 : Value).ownBlock ∧ k_ ≠ gb327 ∧ k_ ≠ gb346) (fun k_ => ((fun k_ => some k_ ≠ (.slice Ao77 x9_2.length co77 : Value).ownBlock ∧ k_ ≠ gb327 ∧ k_ ≠ gb346)) k_ ∧ some k_ ≠ (u16 : Value).ownBlock) rfl rfl ?aO ?aR (fun _ hk => hk) ?aF ?aB ?aS ?aL ?_; (case aR => exact (by skip; exact Kd.V_F (Kd.V_mono (ok' := (fun k_ => ((fun k_ => some k_ ≠ (.slice Ao77 x9_2.length co77 : Value).ownBlock ∧ k_ ≠ gb327 ∧ k_ ≠ gb346)) k_ ∧ some k_ ≠ (u16 : Value).ownBlock)) (HO_20.out) (fun k_ hk => ⟨⟨hk.1, ⟨hk.2.2.1, hk.2.2.2⟩⟩, hk.2.1⟩)))); (case aB => exact (by repeat (first | (with_reducible first | exact HB.out | apply below_alloc | apply pw_below_drewN | apply below_drew1 | refine below_set ?_ GE327.out | refine below_set ?_ GE346.out) | exact HB.out))); (case aF => exact (fun k_ hk => ⟨Kd.fresh' (Kd.N_lt (by (with_reducible repeat (first | apply Kd.N_alloc | apply Kd.N_drewN | apply Kd.N_drew)); exact HO_9.out)) k_ hk, Kd.freshB (g := gb327) (o := .cells #[.int .i64 a1_0, .int .i64 a1_1, .int .i64 a1_2, .slice A1_3 l1_3.length c1_3] 25 (0, 0)) (by (with_reducible repeat (first | refine blk_drewN ?_ _ | refine blk_drew ?_ | refine blk_alloc ?_ _)); exact BK327.out) k_ hk, Kd.freshB (g := gb346) (o := .cells #[.int .i64 t336, .int .i64 t337, .int .i64 t338, .slice Ao61 t339.length co61] 25 (0, 0)) (by (with_reducible repeat (first | refine blk_drewN ?_ _ | refine blk_drew ?_ | refine blk_alloc ?_ _)); exact BK346.out) k_ hk⟩)); (case aO => exact (by (with_reducible repeat (first | apply Kd.N_alloc | apply Kd.N_drewN | apply Kd.N_drew)); exact HO_16.out)); (case aS => exact (below_size (by repeat (first | (with_reducible first | exact HB.out | apply below_alloc | apply pw_below_drewN | apply below_drew1 | refine below_set ?_ GE327.out | refine below_set ?_ GE346.out) | exact HB.out)))); (case aL => have := LMc95.out; omega); intro v376 w99 ho hb hg hat; rw [← Ny375.out] at ho; have n0_ := Aside0.mk (Kd.N_afterv (ok := (fun k_ => k_ ≠ gb327 ∧ k_ ≠ gb346)) (by (with_reducible repeat (first | apply Kd.N_alloc | apply Kd.N_drewN | apply Kd.N_drew)); exact Kd.N_mono HO_9.out (fun _ hk => ⟨⟨hk.2.1, hk.2.2⟩, hk.1⟩)) hg hat); have n1_ := Aside0.mk (Kd.V_afterv (ok := (fun k_ => some k_ ≠ (.slice Ao77 x9_2.length co77 : Value).ownBlock ∧ k_ ≠ gb327 ∧ k_ ≠ gb346)) (by (with_reducible repeat (first | apply Kd.V_alloc | apply Kd.V_drewN | apply Kd.V_drew)); exact Kd.V_mono HO_20.out (fun _ hk => ⟨⟨hk.1, ⟨hk.2.2.1, hk.2.2.2⟩⟩, hk.2.1⟩)) hg hat); have n2_ := Aside0.mk (Kd.V_afterv (ok := (fun k_ => some k_ ≠ (.slice Ao77 x9_2.length co77 : Value).ownBlock ∧ k_ ≠ gb327 ∧ k_ ≠ gb346)) (by (with_reducible repeat (first | apply Kd.V_alloc | apply Kd.V_drewN | apply Kd.V_drew)); exact Kd.V_mono HO_21.out (fun _ hk => ⟨⟨hk.1, ⟨hk.2.2.1, hk.2.2.2⟩⟩, hk.2.1⟩)) hg hat); have n3_ := Aside0.mk (Kd.V_afterv (ok := (fun k_ => some k_ ≠ (.slice Ao77 x9_2.length co77 : Value).ownBlock ∧ k_ ≠ gb327 ∧ k_ ≠ gb346)) (by (with_reducible repeat (first | apply Kd.V_alloc | apply Kd.V_drewN | apply Kd.V_drew)); exact Kd.V_mono HO_347003.out (fun _ hk => ⟨⟨hk.1, ⟨hk.2.2.1, hk.2.2.2⟩⟩, hk.2.1⟩)) hg hat); have n4_ := Aside0.mk (blk_grown (g := gb327) (o := .cells #[.int .i64 a1_0, .int .i64 a1_1, .int .i64 a1_2, .slice A1_3 l1_3.length c1_3] 25 (0, 0)) (by (with_reducible repeat (first | refine blk_drewN ?_ _ | refine blk_drew ?_ | refine blk_alloc ?_ _)); exact BK327.out) hg (Kd.N_away HO_16.out (fun _ hk => hk.2.1))); have n5_ := Aside0.mk (blk_grown (g := gb346) (o := .cells #[.int .i64 t336, .int .i64 t337, .int .i64 t338, .slice Ao61 t339.length co61] 25 (0, 0)) (by (with_reducible repeat (first | refine blk_drewN ?_ _ | refine blk_drew ?_ | refine blk_alloc ?_ _)); exact BK346.out) hg (Kd.N_away HO_16.out (fun _ hk => hk.2.2))); have n6_ := Aside0.mk (hb); have n7_ := Aside0.mk (ho); clear HO_9; clear HO_20; clear HO_21; clear HO_347003; clear BK327; clear BK346; clear HB; clear HO_16; have HO_9 := n0_; have HO_20 := n1_; have HO_21 := n2_; have HO_347003 := n3_; have BK327 := n4_; have BK346 := n5_; have HB := n6_; have HO377 := n7_; clear n0_ n1_ n2_ n3_ n4_ n5_ n6_ n7_; clear ho hb hg hat))
                                              (first | go_roundg k6 | (refine Handed.intro k6 ?measure ?_; rotate_left; go_step; (repeat apply Exists.intro); refine ⟨?rel, ?fr_⟩; (case fr_ => (simp only [Addr.add_lit, Nat.zero_add]; rfl))))
                                              case measure => have := HJ5.out; have := HK2.out; have := HJ54.out; have := HK4.out; have := HK5.out; have := HK6.out; omega
                                              case rel => exact ⟨(y375), ((wrap64 (x17_5 + (wrap64 (rd l2 x19_5))))), (t366), (wrap64 (x19_5 + 1)), (by first | rfl | (simp; done) | (simp [*]; done)), (by first | rfl | (simp; done) | (simp [*]; done)), H', ⟨by have := HJ5.out; have := HK2.out; have := HJ54.out; have := HK4.out; have := HK5.out; have := HK6.out; omega⟩, ⟨by (with_reducible repeat (first | apply Kd.N_alloc | apply Kd.N_drewN | apply Kd.N_drew)); exact Kd.N_mono HO_9.out (fun _ hk => ⟨hk.2, ⟨hk.1.1, hk.1.2⟩⟩)⟩, ⟨by (with_reducible repeat (first | apply Kd.N_alloc | apply Kd.N_drewN | apply Kd.N_drew)); exact HO377.out⟩, ⟨by (with_reducible repeat (first | apply Kd.V_alloc | apply Kd.V_drewN | apply Kd.V_drew)); exact Kd.V_mono HO_21.out (fun _ hk => ⟨hk.1.1, ⟨hk.2, ⟨hk.1.2.1, hk.1.2.2⟩⟩⟩)⟩, ⟨by (with_reducible repeat (first | apply Kd.V_alloc | apply Kd.V_drewN | apply Kd.V_drew)); exact Kd.V_mono HO_347003.out (fun _ hk => ⟨hk.1.1, ⟨hk.2, ⟨hk.1.2.1, hk.1.2.2⟩⟩⟩)⟩, ⟨by (with_reducible repeat (first | refine blk_drewN ?_ _ | refine blk_drew ?_ | refine blk_alloc ?_ _)); exact BK327.out⟩, ⟨by (with_reducible repeat (first | refine blk_drewN ?_ _ | refine blk_drew ?_ | refine blk_alloc ?_ _)); exact BK346.out⟩, ⟨by repeat (first | (with_reducible first | exact HB.out | apply below_alloc | apply pw_below_drewN | apply below_drew1 | refine below_set ?_ GE327.out | refine below_set ?_ GE346.out) | exact HB.out)⟩⟩
                                            · rw [if_neg c95] at H
                                              exact absurd H (by simp)
                                  · rw [if_neg c79] at H
                                    exact absurd H (by simp)
                                · rw [if_neg c78] at H
                                  have c78b0 : decide (x19_5 < (l2.length : Int)) = false := decide_eq_false c78
                                  clear c78
                                  by_cases c100 : x14_4 = true
                                  · subst c100
                                    have H1 : (if x16_5.length + x18_5.length < 2932031007402 then ((affidavitref20_Same.f k5 (x16_5 ++ x18_5) x9_2).bind fun t361 => (some t361)) else (none)) = some r := by rw [if_pos rfl] at H; exact H
                                    clear H
                                    have H := H1
                                    clear H1
                                    by_cases c101 : x16_5.length + x18_5.length < 2932031007402
                                    · rw [if_pos c101] at H
                                      have LMc101 := Aside0.mk c101
                                      clear c101
                                      obtain ⟨y358, hy358⟩ : ∃ y_ : List (S25), y_ = (x16_5 ++ x18_5) := ⟨_, rfl⟩
                                      replace H : ((affidavitref20_Same.f k5 y358 x9_2).bind fun t361 => (some t361)) = some r := by first | (rw [hy358]; with_reducible exact H) | (have H2_ := (Option.bind_some _ _).symm.trans H; rw [hy358]; with_reducible exact H2_) | (have H2_ := (Option.bind_some _ _).symm.trans H; with_reducible exact H2_) | with_reducible exact H | (rw [hy358]; exact H) | exact H
                                      have Ny358 := Aside0.mk hy358
                                      clear hy358
                                      replace H := Option.bind_eq_some_iff.mp H
                                      obtain ⟨t361, A1020, H⟩ := H
                                      replace H : (some t361) = some r := H
                                      have A102 := Aside0.mk A1020
                                      clear A1020
                                      obtain rfl := Option.some.inj H
                                      obtain ⟨Ao104, co104, eo104⟩ := Kd.V_slice HO_18.out
                                      subst eo104
                                      go_wp2_with (first | ((with_reducible refine gate_builtin (b := .append) (xs := #[.tmp 152, .tmp 153]) rfl ?_); (try (refine gate_guard (by rfl) ?_; dsimp only)); at_builtin; refine Kd.N_append_rows k25 (w0 := w) w.heap.size rfl (.tmp 152) (.tmp 153) 22 25 (.agg #[(.int .i64 0), (.int .i64 0), (.int .i64 0), (.slice none 0 0)]) 48 rfl Try.underlying22 info25 rfl (by decide) (by omega) u16 x16_5 x18_5 _ _ _ (fun k_ => some k_ ≠ (.slice Ao77 x9_2.length co77 : Value).ownBlock ∧ k_ ≠ gb327 ∧ k_ ≠ gb346) (fun k_ => ((fun k_ => some k_ ≠ (.slice Ao77 x9_2.length co77 : Value).ownBlock ∧ k_ ≠ gb327 ∧ k_ ≠ gb346)) k_ ∧ some k_ ≠ (u16 : Value).ownBlock) rfl rfl ?aO ?aR (fun _ hk => hk) ?aF ?aB ?aS ?aL ?_; (case aR => exact (by skip; exact Kd.V_F (Kd.V_mono (ok' := (fun k_ => ((fun k_ => some k_ ≠ (.slice Ao77 x9_2.length co77 : Value).ownBlock ∧ k_ ≠ gb327 ∧ k_ ≠ gb346)) k_ ∧ some k_ ≠ (u16 : Value).ownBlock)) (HO_18.out) (fun k_ hk => ⟨⟨hk.1, ⟨hk.2.2.1, hk.2.2.2⟩⟩, hk.2.1⟩)))); (case aB => exact (by repeat (first | (with_reducible first | exact HB.out | apply below_alloc | apply pw_below_drewN | apply below_drew1 | refine below_set ?_ GE327.out | refine below_set ?_ GE346.out) | exact HB.out))); (case aF => exact (fun k_ hk => ⟨Kd.fresh' (Kd.N_lt (by (with_reducible repeat (first | apply Kd.N_alloc | apply Kd.N_drewN | apply Kd.N_drew)); exact HO_9.out)) k_ hk, Kd.freshB (g := gb327) (o := .cells #[.int .i64 a1_0, .int .i64 a1_1, .int .i64 a1_2, .slice A1_3 l1_3.length c1_3] 25 (0, 0)) (by (with_reducible repeat (first | refine blk_drewN ?_ _ | refine blk_drew ?_ | refine blk_alloc ?_ _)); exact BK327.out) k_ hk, Kd.freshB (g := gb346) (o := .cells #[.int .i64 t336, .int .i64 t337, .int .i64 t338, .slice Ao61 t339.length co61] 25 (0, 0)) (by (with_reducible repeat (first | refine blk_drewN ?_ _ | refine blk_drew ?_ | refine blk_alloc ?_ _)); exact BK346.out) k_ hk⟩)); (case aO => exact (by (with_reducible repeat (first | apply Kd.N_alloc | apply Kd.N_drewN | apply Kd.N_drew)); exact HO_16.out)); (case aS => exact (below_size (by repeat (first | (with_reducible first | exact HB.out | apply below_alloc | apply pw_below_drewN | apply below_drew1 | refine below_set ?_ GE327.out | refine below_set ?_ GE346.out) | exact HB.out)))); (case aL => have := LMc101.out; omega); intro v359 w103 ho hb hg hat; rw [← Ny358.out] at ho; have n0_ := Aside0.mk (Kd.N_afterv (ok := (fun k_ => k_ ≠ gb327 ∧ k_ ≠ gb346)) (by (with_reducible repeat (first | apply Kd.N_alloc | apply Kd.N_drewN | apply Kd.N_drew)); exact Kd.N_mono HO_9.out (fun _ hk => ⟨⟨hk.2.1, hk.2.2⟩, hk.1⟩)) hg hat); have n1_ := Aside0.mk (Kd.V_afterv (ok := (fun k_ => some k_ ≠ (.slice Ao77 x9_2.length co77 : Value).ownBlock ∧ k_ ≠ gb327 ∧ k_ ≠ gb346)) (by (with_reducible repeat (first | apply Kd.V_alloc | apply Kd.V_drewN | apply Kd.V_drew)); exact Kd.V_mono HO_18.out (fun _ hk => ⟨⟨hk.1, ⟨hk.2.2.1, hk.2.2.2⟩⟩, hk.2.1⟩)) hg hat); have n2_ := Aside0.mk (Kd.V_afterv (ok := (fun k_ => some k_ ≠ (.slice Ao77 x9_2.length co77 : Value).ownBlock ∧ k_ ≠ gb327 ∧ k_ ≠ gb346)) (by (with_reducible repeat (first | apply Kd.V_alloc | apply Kd.V_drewN | apply Kd.V_drew)); exact Kd.V_mono HO_347003.out (fun _ hk => ⟨⟨hk.1, ⟨hk.2.2.1, hk.2.2.2⟩⟩, hk.2.1⟩)) hg hat); have n3_ := Aside0.mk (blk_grown (g := gb327) (o := .cells #[.int .i64 a1_0, .int .i64 a1_1, .int .i64 a1_2, .slice A1_3 l1_3.length c1_3] 25 (0, 0)) (by (with_reducible repeat (first | refine blk_drewN ?_ _ | refine blk_drew ?_ | refine blk_alloc ?_ _)); exact BK327.out) hg (Kd.N_away HO_16.out (fun _ hk => hk.2.1))); have n4_ := Aside0.mk (blk_grown (g := gb346) (o := .cells #[.int .i64 t336, .int .i64 t337, .int .i64 t338, .slice Ao61 t339.length co61] 25 (0, 0)) (by (with_reducible repeat (first | refine blk_drewN ?_ _ | refine blk_drew ?_ | refine blk_alloc ?_ _)); exact BK346.out) hg (Kd.N_away HO_16.out (fun _ hk => hk.2.2))); have n5_ := Aside0.mk (hb); have n6_ := Aside0.mk (ho); clear HO_9; clear HO_18; clear HO_347003; clear BK327; clear BK346; clear HB; clear HO_16; have HO_9 := n0_; have HO_18 := n1_; have HO_347003 := n2_; have BK327 := n3_; have BK346 := n4_; have HB := n5_; have HO360 := n6_; clear n0_ n1_ n2_ n3_ n4_ n5_ n6_; clear ho hb hg hat; obtain ⟨Ao105, co105, eo105⟩ := Kd.N_slice HO360.out; subst eo105) | (go_at_call 17; (with_reducible refine (affidavitref20_Same.calls k5 _ _ y358 _ _ x9_2 t361 _ ?side1 ?side2 ?side3 ?side4 A102.out).mono ?_); (case side1 => repeat (first | exact (Kd.N_reads' HO360.out).2.2 | (with_reducible refine Kd.C_alloc ?_ _) | (with_reducible refine Kd.C_drewN ?_ _) | (with_reducible refine Kd.C_drew ?_))); (case side2 => exact (Kd.N_reads' HO360.out).2.1); (case side3 => repeat (first | exact (Kd.N_reads' HO_9.out).2.2 | (with_reducible refine Kd.C_alloc ?_ _) | (with_reducible refine Kd.C_drewN ?_ _) | (with_reducible refine Kd.C_drew ?_))); (case side4 => exact (Kd.N_reads' HO_9.out).2.1); rintro e w106 ⟨rfl, hb⟩; have n0_ := Aside0.mk (Kd.N_below (by (with_reducible repeat (first | apply Kd.N_alloc | apply Kd.N_drewN | apply Kd.N_drew)); exact HO_9.out) hb); have n1_ := Aside0.mk (Kd.V_below (by (with_reducible repeat (first | apply Kd.V_alloc | apply Kd.V_drewN | apply Kd.V_drew)); exact HO_18.out) hb); have n2_ := Aside0.mk (Kd.V_below (by (with_reducible repeat (first | apply Kd.V_alloc | apply Kd.V_drewN | apply Kd.V_drew)); exact HO_347003.out) hb); have n3_ := Aside0.mk (Kd.N_below (by (with_reducible repeat (first | apply Kd.N_alloc | apply Kd.N_drewN | apply Kd.N_drew)); exact HO360.out) hb); have n4_ := Aside0.mk (blk_below (g := gb327) (o := .cells #[.int .i64 a1_0, .int .i64 a1_1, .int .i64 a1_2, .slice A1_3 l1_3.length c1_3] 25 (0, 0)) (by (with_reducible repeat (first | refine blk_drewN ?_ _ | refine blk_drew ?_ | refine blk_alloc ?_ _)); exact BK327.out) hb); have n5_ := Aside0.mk (blk_below (g := gb346) (o := .cells #[.int .i64 t336, .int .i64 t337, .int .i64 t338, .slice Ao61 t339.length co61] 25 (0, 0)) (by (with_reducible repeat (first | refine blk_drewN ?_ _ | refine blk_drew ?_ | refine blk_alloc ?_ _)); exact BK346.out) hb); have n6_ := Aside0.mk (below_step (by repeat (first | (with_reducible first | exact HB.out | apply below_alloc | apply pw_below_drewN | apply below_drew1 | refine below_set ?_ GE327.out | refine below_set ?_ GE346.out) | exact HB.out)) hb); clear HO_9; clear HO_18; clear HO_347003; clear HO360; clear BK327; clear BK346; clear HB; have HO_9 := n0_; have HO_18 := n1_; have HO_347003 := n2_; have HO360 := n3_; have BK327 := n4_; have BK346 := n5_; have HB := n6_; clear n0_ n1_ n2_ n3_ n4_ n5_ n6_; (try clear hb); (try clear hb2); (try clear hk); (try clear hi)))
                                      go_ret
                                      exact ⟨by first | rfl | (simp [errW_none, errW_some] <;> rfl) | (simp [*, errW_none, errW_some] <;> rfl), by repeat (first | (with_reducible first | exact HB.out | apply below_alloc | apply pw_below_drewN | apply below_drew1 | refine below_set ?_ GE327.out | refine below_set ?_ GE346.out) | exact HB.out)⟩
                                    · rw [if_neg c101] at H
                                      exact absurd H (by simp)
                                  · replace c100 := Bool.eq_false_iff.mpr c100
                                    subst c100
                                    have H1 : (none) = some r := by rw [if_neg (show ¬ (false = true) by decide)] at H; exact H
                                    clear H
                                    have H := H1
                                    clear H1
                                    exact absurd H (by simp)
  · replace c5 := Bool.eq_false_iff.mpr c5
    subst c5
    have H1 : (none) = some r := by rw [if_neg (show ¬ (false = true) by decide)] at H; exact H
    clear H
    have H := H1
    clear H1
    exact absurd H (by simp)

/-- THE ONE PURE STATEMENT of affidavitlaw20_QueueOrder: yours. -/
def affidavitlaw20_QueueOrder.wf25 (x : S25) : Prop := ((Lit.int .i64 x.f0).wf = true) ∧ (((Lit.int .i64 x.f1).wf = true) ∧ (((Lit.int .i64 x.f2).wf = true) ∧ ((x.f3.length ≤ maxLen ∧ x.f3.length * 1 ≤ 140737488351232 ∧ ∀ y_ ∈ x.f3, (Lit.int .u8 y_).wf = true))))
def affidavitlaw20_QueueOrder.Pure : Prop := ∀ (l0 : List (S25)) (a1_0 : Int) (a1_1 : Int) (a1_2 : Int) (l1_3 : List Int) (l2 : List Int), (l0.length ≤ maxLen ∧ l0.length * 48 ≤ 140737488351232 ∧ ∀ y_ ∈ l0, affidavitlaw20_QueueOrder.wf25 y_) → affidavitlaw20_QueueOrder.wf25 (⟨a1_0, a1_1, a1_2, l1_3⟩ : S25) → (l2.length ≤ maxLen ∧ l2.length * 1 ≤ 140737488351232 ∧ ∀ y_ ∈ l2, (Lit.int .u8 y_).wf = true) → ∃ k, affidavitlaw20_QueueOrder.f k l0 a1_0 a1_1 a1_2 l1_3 l2 = some true
theorem affidavitlaw20_QueueOrder.walk (P : affidavitlaw20_QueueOrder.Pure) (A0 : Option Addr) (c0 : Nat) (l0 : List (S25)) (a1_0 : Int) (a1_1 : Int) (a1_2 : Int) (A1_3 : Option Addr) (c1_3 : Nat) (l1_3 : List Int) (A2 : Option Addr) (c2 : Nat) (l2 : List Int) (w : World) (hr0 : Kd.C k25 w A0 l0.length l0) (hc0 : l0.length ≤ c0) (w0 : (l0.length ≤ maxLen ∧ l0.length * 48 ≤ 140737488351232 ∧ ∀ y_ ∈ l0, affidavitlaw20_QueueOrder.wf25 y_)) (hr1_3 : Kd.C (Kd.int .u8) w A1_3 l1_3.length l1_3) (hc1_3 : l1_3.length ≤ c1_3) (w1 : affidavitlaw20_QueueOrder.wf25 (⟨a1_0, a1_1, a1_2, l1_3⟩ : S25)) (hr2 : Kd.C (Kd.int .u8) w A2 l2.length l2) (hc2 : l2.length ≤ c2) (w2 : (l2.length ≤ maxLen ∧ l2.length * 1 ≤ 140737488351232 ∧ ∀ y_ ∈ l2, (Lit.int .u8 y_).wf = true)) :
    Calls Try.prog 4 #[.slice A0 l0.length c0, .agg #[.int .i64 a1_0, .int .i64 a1_1, .int .i64 a1_2, .slice A1_3 l1_3.length c1_3], .slice A2 l2.length c2] w fun e w' => e = .returned (.bool true) ∧ Below w.heap.size w w' := by
  obtain ⟨k, h⟩ := P l0 a1_0 a1_1 a1_2 l1_3 l2 w0 w1 w2
  refine (affidavitlaw20_QueueOrder.calls (k := k) (r := true) (w := w) (hr0 := hr0) (hc0 := hc0) (hr1_3 := hr1_3) (hc1_3 := hc1_3) (hr2 := hr2) (hc2 := hc2) (h := h)).mono ?_
  rintro e w' ⟨rfl, hd⟩
  exact ⟨rfl, hd⟩

end Go.Proofs.Ytghkngdcmlhmeaa.PQu

/- Contracts of functions of the given program: printed out of the translation by a program of this session, with texts by hand for what the print does not take. -/
import Derived.Test.YtffcjgelcdilcaaPSerx0
import Derived.Test.YtffcjgelcdilcaaPSerx1
import Derived.Test.YtffcjgelcdilcaaPSerx3
import Derived.Test.YtffcjgelcdilcaaPSerx4
import Derived.Test.YtffcjgelcdilcaaPSerx5
import Derived.Test.YtffcjgelcdilcaaPSerx7
import Derived.Test.YtffcjgelcdilcaaPSerx8
namespace Go.Proofs.Ytffcjgelcdilcaa.PSer
open Go.RowKit Go.Proofs.YtffcjgelcdilcaaW.PrintWords Go.Proofs.YtffcjgelcdilcaaW.PrintLast Go.Proofs.YtffcjgelcdilcaaW.PrintMore
attribute [local go_sem] max2_int min2_int max_two min_two max_three min_three max_four min_four   -- for this text's walks alone
set_option linter.unusedVariables false
set_option linter.unusedSimpArgs false

/-! ### affidavitlaw04_SeriesRight: function 3 -/
mutual
def affidavitlaw04_SeriesRight.j0 : Nat → Int → List Int → List Int → Int → Bool → Option (Bool)
  | 0, _, _, _, _, _ => none
  | k + 1, x0, x1, x2, x3, x32 => if x32 = true then (some true) else ((affidavitref04_Right.f k x0 x2).bind fun t259 => ((series_On.f k x0 x1 x2 x3).bind fun bt260 => ((series_Poly.f k x0 x2).bind fun bt264 => ((series_Right.f k x0 x2).bind fun t268 => (if (t268 != t259) = true then (none) else ((series_Obeys.f k x0 x1 x2).bind fun t269 => ((affidavitref04_Obeys.f k x0 x1 x2).bind fun t270 => (affidavitlaw04_SeriesRight.j1 k x0 x1 x2 x3 t259 bt260.1 bt260.2 bt264.1 bt264.2 (t269 != t270)))))))))
def affidavitlaw04_SeriesRight.j1 : Nat → Int → List Int → List Int → Int → Bool → List Int → Int → List Int → Int → Bool → Option (Bool)
  | 0, _, _, _, _, _, _, _, _, _, _ => none
  | k + 1, x0, x1, x2, x3, x9, x10, x11, x12, x13, x65 => if x65 = true then (none) else (if x9 = true then (if x13 = 0 then ((affidavitref04_Turned.f k x2).bind fun t271 => ((affidavitref01_Same.f k x12 t271).bind fun t274 => (affidavitlaw04_SeriesRight.j2 k x0 x1 x2 x3 x9 x10 x11 (!t274)))) else (none)) else (if x13 = 1 then (if (x12.length : Int) = 0 then (affidavitlaw04_SeriesRight.j2 k x0 x1 x2 x3 x9 x10 x11 false) else (none)) else (none)))
def affidavitlaw04_SeriesRight.j2 : Nat → Int → List Int → List Int → Int → Bool → List Int → Int → Bool → Option (Bool)
  | 0, _, _, _, _, _, _, _, _ => none
  | k + 1, x0, x1, x2, x3, x9, x10, x11, x90 => if x90 = true then (none) else (if x9 = true then ((affidavitref01_Has.f k x0 x1).bind fun t275 => (if t275 = true then (if x3 < 0 then (affidavitlaw04_SeriesRight.j3 k x0 x1 x2 x3 x10 x11 true) else (affidavitlaw04_SeriesRight.j3 k x0 x1 x2 x3 x10 x11 (decide (x3 > 512)))) else (affidavitlaw04_SeriesRight.j3 k x0 x1 x2 x3 x10 x11 true))) else (affidavitlaw04_SeriesRight.j3 k x0 x1 x2 x3 x10 x11 true))
def affidavitlaw04_SeriesRight.j3 : Nat → Int → List Int → List Int → Int → List Int → Int → Bool → Option (Bool)
  | 0, _, _, _, _, _, _, _ => none
  | k + 1, x0, x1, x2, x3, x10, x11, x106 => if x106 = true then (if x11 = 1 then (some ((x10.length : Int) == 0)) else (none)) else (if x11 = 0 then (if (x10.length : Int) = (wrap64 ((x1.length : Int) + x3)) then (if 0 ≤ (x1.length : Int) then (if (x1.length : Int) ≤ (x10.length : Int) then ((affidavitref01_Same.f k (x10.take ((x1.length : Int) : Int).toNat) x1).bind fun t280 => (if t280 = true then ((affidavitref01_Has.f k x0 x10).bind fun t281 => (affidavitlaw04_SeriesRight.j4 k x0 x1 x2 x10 (!t281))) else (none))) else (none)) else (none)) else (none)) else (none))
def affidavitlaw04_SeriesRight.j4 : Nat → Int → List Int → List Int → List Int → Bool → Option (Bool)
  | 0, _, _, _, _, _ => none
  | k + 1, x0, x1, x2, x10, x139 => if x139 = true then (none) else (affidavitlaw04_SeriesRight.l0 k x0 x2 x10 (x1.length : Int))
def affidavitlaw04_SeriesRight.l0 : Nat → Int → List Int → List Int → Int → Option (Bool)
  | 0, _, _, _, _ => none
  | k + 1, x0, x2, x10, x14 => if x14 < (x10.length : Int) then ((affidavitref04_Sum.f k x0 x10 x2 x14).bind fun t282 => (if t282 = 0 then (affidavitlaw04_SeriesRight.l0 k x0 x2 x10 (wrap64 (x14 + 1))) else (none))) else (some true)
end
def affidavitlaw04_SeriesRight.f (k : Nat) (a0 : Int) (l1 : List Int) (l2 : List Int) (a3 : Int) : Option (Bool) := (affidavitlaw04_awake.f k).bind fun t258 => (if t258 = true then (if (l1.length : Int) > 60 then (affidavitlaw04_SeriesRight.j0 k a0 l1 l2 a3 true) else (if (l2.length : Int) > 60 then (affidavitlaw04_SeriesRight.j0 k a0 l1 l2 a3 true) else (if a3 > 40 then (affidavitlaw04_SeriesRight.j0 k a0 l1 l2 a3 (decide (a3 ≤ 512))) else (affidavitlaw04_SeriesRight.j0 k a0 l1 l2 a3 false)))) else (none))
theorem affidavitlaw04_SeriesRight.mono_l : ∀ k, (∀ y0 y1 y2 y3 y4, LeO (affidavitlaw04_SeriesRight.j0 k y0 y1 y2 y3 y4) (affidavitlaw04_SeriesRight.j0 (k + 1) y0 y1 y2 y3 y4)) ∧ (∀ y0 y1 y2 y3 y4 y5 y6 y7 y8 y9, LeO (affidavitlaw04_SeriesRight.j1 k y0 y1 y2 y3 y4 y5 y6 y7 y8 y9) (affidavitlaw04_SeriesRight.j1 (k + 1) y0 y1 y2 y3 y4 y5 y6 y7 y8 y9)) ∧ (∀ y0 y1 y2 y3 y4 y5 y6 y7, LeO (affidavitlaw04_SeriesRight.j2 k y0 y1 y2 y3 y4 y5 y6 y7) (affidavitlaw04_SeriesRight.j2 (k + 1) y0 y1 y2 y3 y4 y5 y6 y7)) ∧ (∀ y0 y1 y2 y3 y4 y5 y6, LeO (affidavitlaw04_SeriesRight.j3 k y0 y1 y2 y3 y4 y5 y6) (affidavitlaw04_SeriesRight.j3 (k + 1) y0 y1 y2 y3 y4 y5 y6)) ∧ (∀ y0 y1 y2 y3 y4, LeO (affidavitlaw04_SeriesRight.j4 k y0 y1 y2 y3 y4) (affidavitlaw04_SeriesRight.j4 (k + 1) y0 y1 y2 y3 y4)) ∧ (∀ y0 y1 y2 y3, LeO (affidavitlaw04_SeriesRight.l0 k y0 y1 y2 y3) (affidavitlaw04_SeriesRight.l0 (k + 1) y0 y1 y2 y3))
  | 0 => ⟨fun _ _ _ _ _ r h => by simp [affidavitlaw04_SeriesRight.j0] at h, fun _ _ _ _ _ _ _ _ _ _ r h => by simp [affidavitlaw04_SeriesRight.j1] at h, fun _ _ _ _ _ _ _ _ r h => by simp [affidavitlaw04_SeriesRight.j2] at h, fun _ _ _ _ _ _ _ r h => by simp [affidavitlaw04_SeriesRight.j3] at h, fun _ _ _ _ _ r h => by simp [affidavitlaw04_SeriesRight.j4] at h, fun _ _ _ _ r h => by simp [affidavitlaw04_SeriesRight.l0] at h⟩
  | k + 1 => by
    obtain ⟨ih0, ih1, ih2, ih3, ih4, ih5⟩ := affidavitlaw04_SeriesRight.mono_l k
    refine ⟨?_, ?_, ?_, ?_, ?_, ?_⟩
    · intro y0 y1 y2 y3 y4
      unfold affidavitlaw04_SeriesRight.j0
      repeat' first
      | (with_reducible exact ih0 _ _ _ _ _)
      | (with_reducible exact ih1 _ _ _ _ _ _ _ _ _ _)
      | (with_reducible exact ih2 _ _ _ _ _ _ _ _)
      | (with_reducible exact ih3 _ _ _ _ _ _ _)
      | (with_reducible exact ih4 _ _ _ _ _)
      | (with_reducible exact ih5 _ _ _ _)
      | (with_reducible exact affidavitlaw04_awake.mono _)
      | (with_reducible exact affidavitref01_Has.mono _ _ _)
      | (with_reducible exact affidavitref01_Same.mono _ _ _)
      | (with_reducible exact affidavitref04_Obeys.mono _ _ _ _)
      | (with_reducible exact affidavitref04_Right.mono _ _ _)
      | (with_reducible exact affidavitref04_Sum.mono _ _ _ _ _)
      | (with_reducible exact affidavitref04_Turned.mono _ _)
      | (with_reducible exact series_Obeys.mono _ _ _ _)
      | (with_reducible exact series_On.mono _ _ _ _ _)
      | (with_reducible exact series_Poly.mono _ _ _)
      | (with_reducible exact series_Right.mono _ _ _)
      | (with_reducible exact LeO.refl _)
      | (with_reducible exact LeO.none _)
      | (with_reducible refine LeO.ite ?_ ?_)
      | (with_reducible refine LeO.bind ?_ (fun _ => ?_))
      | exact ih0 _ _ _ _ _
      | exact ih1 _ _ _ _ _ _ _ _ _ _
      | exact ih2 _ _ _ _ _ _ _ _
      | exact ih3 _ _ _ _ _ _ _
      | exact ih4 _ _ _ _ _
      | exact ih5 _ _ _ _
      | exact affidavitlaw04_awake.mono _
      | exact affidavitref01_Has.mono _ _ _
      | exact affidavitref01_Same.mono _ _ _
      | exact affidavitref04_Obeys.mono _ _ _ _
      | exact affidavitref04_Right.mono _ _ _
      | exact affidavitref04_Sum.mono _ _ _ _ _
      | exact affidavitref04_Turned.mono _ _
      | exact series_Obeys.mono _ _ _ _
      | exact series_On.mono _ _ _ _ _
      | exact series_Poly.mono _ _ _
      | exact series_Right.mono _ _ _
      | exact LeO.none _
      | refine LeO.ite ?_ ?_
      | refine LeO.bind ?_ (fun _ => ?_)
    · intro y0 y1 y2 y3 y4 y5 y6 y7 y8 y9
      unfold affidavitlaw04_SeriesRight.j1
      repeat' first
      | (with_reducible exact ih0 _ _ _ _ _)
      | (with_reducible exact ih1 _ _ _ _ _ _ _ _ _ _)
      | (with_reducible exact ih2 _ _ _ _ _ _ _ _)
      | (with_reducible exact ih3 _ _ _ _ _ _ _)
      | (with_reducible exact ih4 _ _ _ _ _)
      | (with_reducible exact ih5 _ _ _ _)
      | (with_reducible exact affidavitlaw04_awake.mono _)
      | (with_reducible exact affidavitref01_Has.mono _ _ _)
      | (with_reducible exact affidavitref01_Same.mono _ _ _)
      | (with_reducible exact affidavitref04_Obeys.mono _ _ _ _)
      | (with_reducible exact affidavitref04_Right.mono _ _ _)
      | (with_reducible exact affidavitref04_Sum.mono _ _ _ _ _)
      | (with_reducible exact affidavitref04_Turned.mono _ _)
      | (with_reducible exact series_Obeys.mono _ _ _ _)
      | (with_reducible exact series_On.mono _ _ _ _ _)
      | (with_reducible exact series_Poly.mono _ _ _)
      | (with_reducible exact series_Right.mono _ _ _)
      | (with_reducible exact LeO.refl _)
      | (with_reducible exact LeO.none _)
      | (with_reducible refine LeO.ite ?_ ?_)
      | (with_reducible refine LeO.bind ?_ (fun _ => ?_))
      | exact ih0 _ _ _ _ _
      | exact ih1 _ _ _ _ _ _ _ _ _ _
      | exact ih2 _ _ _ _ _ _ _ _
      | exact ih3 _ _ _ _ _ _ _
      | exact ih4 _ _ _ _ _
      | exact ih5 _ _ _ _
      | exact affidavitlaw04_awake.mono _
      | exact affidavitref01_Has.mono _ _ _
      | exact affidavitref01_Same.mono _ _ _
      | exact affidavitref04_Obeys.mono _ _ _ _
      | exact affidavitref04_Right.mono _ _ _
      | exact affidavitref04_Sum.mono _ _ _ _ _
      | exact affidavitref04_Turned.mono _ _
      | exact series_Obeys.mono _ _ _ _
      | exact series_On.mono _ _ _ _ _
      | exact series_Poly.mono _ _ _
      | exact series_Right.mono _ _ _
      | exact LeO.none _
      | refine LeO.ite ?_ ?_
      | refine LeO.bind ?_ (fun _ => ?_)
    · intro y0 y1 y2 y3 y4 y5 y6 y7
      unfold affidavitlaw04_SeriesRight.j2
      repeat' first
      | (with_reducible exact ih0 _ _ _ _ _)
      | (with_reducible exact ih1 _ _ _ _ _ _ _ _ _ _)
      | (with_reducible exact ih2 _ _ _ _ _ _ _ _)
      | (with_reducible exact ih3 _ _ _ _ _ _ _)
      | (with_reducible exact ih4 _ _ _ _ _)
      | (with_reducible exact ih5 _ _ _ _)
      | (with_reducible exact affidavitlaw04_awake.mono _)
      | (with_reducible exact affidavitref01_Has.mono _ _ _)
      | (with_reducible exact affidavitref01_Same.mono _ _ _)
      | (with_reducible exact affidavitref04_Obeys.mono _ _ _ _)
      | (with_reducible exact affidavitref04_Right.mono _ _ _)
      | (with_reducible exact affidavitref04_Sum.mono _ _ _ _ _)
      | (with_reducible exact affidavitref04_Turned.mono _ _)
      | (with_reducible exact series_Obeys.mono _ _ _ _)
      | (with_reducible exact series_On.mono _ _ _ _ _)
      | (with_reducible exact series_Poly.mono _ _ _)
      | (with_reducible exact series_Right.mono _ _ _)
      | (with_reducible exact LeO.refl _)
      | (with_reducible exact LeO.none _)
      | (with_reducible refine LeO.ite ?_ ?_)
      | (with_reducible refine LeO.bind ?_ (fun _ => ?_))
      | exact ih0 _ _ _ _ _
      | exact ih1 _ _ _ _ _ _ _ _ _ _
      | exact ih2 _ _ _ _ _ _ _ _
      | exact ih3 _ _ _ _ _ _ _
      | exact ih4 _ _ _ _ _
      | exact ih5 _ _ _ _
      | exact affidavitlaw04_awake.mono _
      | exact affidavitref01_Has.mono _ _ _
      | exact affidavitref01_Same.mono _ _ _
      | exact affidavitref04_Obeys.mono _ _ _ _
      | exact affidavitref04_Right.mono _ _ _
      | exact affidavitref04_Sum.mono _ _ _ _ _
      | exact affidavitref04_Turned.mono _ _
      | exact series_Obeys.mono _ _ _ _
      | exact series_On.mono _ _ _ _ _
      | exact series_Poly.mono _ _ _
      | exact series_Right.mono _ _ _
      | exact LeO.none _
      | refine LeO.ite ?_ ?_
      | refine LeO.bind ?_ (fun _ => ?_)
    · intro y0 y1 y2 y3 y4 y5 y6
      unfold affidavitlaw04_SeriesRight.j3
      repeat' first
      | (with_reducible exact ih0 _ _ _ _ _)
      | (with_reducible exact ih1 _ _ _ _ _ _ _ _ _ _)
      | (with_reducible exact ih2 _ _ _ _ _ _ _ _)
      | (with_reducible exact ih3 _ _ _ _ _ _ _)
      | (with_reducible exact ih4 _ _ _ _ _)
      | (with_reducible exact ih5 _ _ _ _)
      | (with_reducible exact affidavitlaw04_awake.mono _)
      | (with_reducible exact affidavitref01_Has.mono _ _ _)
      | (with_reducible exact affidavitref01_Same.mono _ _ _)
      | (with_reducible exact affidavitref04_Obeys.mono _ _ _ _)
      | (with_reducible exact affidavitref04_Right.mono _ _ _)
      | (with_reducible exact affidavitref04_Sum.mono _ _ _ _ _)
      | (with_reducible exact affidavitref04_Turned.mono _ _)
      | (with_reducible exact series_Obeys.mono _ _ _ _)
      | (with_reducible exact series_On.mono _ _ _ _ _)
      | (with_reducible exact series_Poly.mono _ _ _)
      | (with_reducible exact series_Right.mono _ _ _)
      | (with_reducible exact LeO.refl _)
      | (with_reducible exact LeO.none _)
      | (with_reducible refine LeO.ite ?_ ?_)
      | (with_reducible refine LeO.bind ?_ (fun _ => ?_))
      | exact ih0 _ _ _ _ _
      | exact ih1 _ _ _ _ _ _ _ _ _ _
      | exact ih2 _ _ _ _ _ _ _ _
      | exact ih3 _ _ _ _ _ _ _
      | exact ih4 _ _ _ _ _
      | exact ih5 _ _ _ _
      | exact affidavitlaw04_awake.mono _
      | exact affidavitref01_Has.mono _ _ _
      | exact affidavitref01_Same.mono _ _ _
      | exact affidavitref04_Obeys.mono _ _ _ _
      | exact affidavitref04_Right.mono _ _ _
      | exact affidavitref04_Sum.mono _ _ _ _ _
      | exact affidavitref04_Turned.mono _ _
      | exact series_Obeys.mono _ _ _ _
      | exact series_On.mono _ _ _ _ _
      | exact series_Poly.mono _ _ _
      | exact series_Right.mono _ _ _
      | exact LeO.none _
      | refine LeO.ite ?_ ?_
      | refine LeO.bind ?_ (fun _ => ?_)
    · intro y0 y1 y2 y3 y4
      unfold affidavitlaw04_SeriesRight.j4
      repeat' first
      | (with_reducible exact ih0 _ _ _ _ _)
      | (with_reducible exact ih1 _ _ _ _ _ _ _ _ _ _)
      | (with_reducible exact ih2 _ _ _ _ _ _ _ _)
      | (with_reducible exact ih3 _ _ _ _ _ _ _)
      | (with_reducible exact ih4 _ _ _ _ _)
      | (with_reducible exact ih5 _ _ _ _)
      | (with_reducible exact affidavitlaw04_awake.mono _)
      | (with_reducible exact affidavitref01_Has.mono _ _ _)
      | (with_reducible exact affidavitref01_Same.mono _ _ _)
      | (with_reducible exact affidavitref04_Obeys.mono _ _ _ _)
      | (with_reducible exact affidavitref04_Right.mono _ _ _)
      | (with_reducible exact affidavitref04_Sum.mono _ _ _ _ _)
      | (with_reducible exact affidavitref04_Turned.mono _ _)
      | (with_reducible exact series_Obeys.mono _ _ _ _)
      | (with_reducible exact series_On.mono _ _ _ _ _)
      | (with_reducible exact series_Poly.mono _ _ _)
      | (with_reducible exact series_Right.mono _ _ _)
      | (with_reducible exact LeO.refl _)
      | (with_reducible exact LeO.none _)
      | (with_reducible refine LeO.ite ?_ ?_)
      | (with_reducible refine LeO.bind ?_ (fun _ => ?_))
      | exact ih0 _ _ _ _ _
      | exact ih1 _ _ _ _ _ _ _ _ _ _
      | exact ih2 _ _ _ _ _ _ _ _
      | exact ih3 _ _ _ _ _ _ _
      | exact ih4 _ _ _ _ _
      | exact ih5 _ _ _ _
      | exact affidavitlaw04_awake.mono _
      | exact affidavitref01_Has.mono _ _ _
      | exact affidavitref01_Same.mono _ _ _
      | exact affidavitref04_Obeys.mono _ _ _ _
      | exact affidavitref04_Right.mono _ _ _
      | exact affidavitref04_Sum.mono _ _ _ _ _
      | exact affidavitref04_Turned.mono _ _
      | exact series_Obeys.mono _ _ _ _
      | exact series_On.mono _ _ _ _ _
      | exact series_Poly.mono _ _ _
      | exact series_Right.mono _ _ _
      | exact LeO.none _
      | refine LeO.ite ?_ ?_
      | refine LeO.bind ?_ (fun _ => ?_)
    · intro y0 y1 y2 y3
      unfold affidavitlaw04_SeriesRight.l0
      repeat' first
      | (with_reducible exact ih0 _ _ _ _ _)
      | (with_reducible exact ih1 _ _ _ _ _ _ _ _ _ _)
      | (with_reducible exact ih2 _ _ _ _ _ _ _ _)
      | (with_reducible exact ih3 _ _ _ _ _ _ _)
      | (with_reducible exact ih4 _ _ _ _ _)
      | (with_reducible exact ih5 _ _ _ _)
      | (with_reducible exact affidavitlaw04_awake.mono _)
      | (with_reducible exact affidavitref01_Has.mono _ _ _)
      | (with_reducible exact affidavitref01_Same.mono _ _ _)
      | (with_reducible exact affidavitref04_Obeys.mono _ _ _ _)
      | (with_reducible exact affidavitref04_Right.mono _ _ _)
      | (with_reducible exact affidavitref04_Sum.mono _ _ _ _ _)
      | (with_reducible exact affidavitref04_Turned.mono _ _)
      | (with_reducible exact series_Obeys.mono _ _ _ _)
      | (with_reducible exact series_On.mono _ _ _ _ _)
      | (with_reducible exact series_Poly.mono _ _ _)
      | (with_reducible exact series_Right.mono _ _ _)
      | (with_reducible exact LeO.refl _)
      | (with_reducible exact LeO.none _)
      | (with_reducible refine LeO.ite ?_ ?_)
      | (with_reducible refine LeO.bind ?_ (fun _ => ?_))
      | exact ih0 _ _ _ _ _
      | exact ih1 _ _ _ _ _ _ _ _ _ _
      | exact ih2 _ _ _ _ _ _ _ _
      | exact ih3 _ _ _ _ _ _ _
      | exact ih4 _ _ _ _ _
      | exact ih5 _ _ _ _
      | exact affidavitlaw04_awake.mono _
      | exact affidavitref01_Has.mono _ _ _
      | exact affidavitref01_Same.mono _ _ _
      | exact affidavitref04_Obeys.mono _ _ _ _
      | exact affidavitref04_Right.mono _ _ _
      | exact affidavitref04_Sum.mono _ _ _ _ _
      | exact affidavitref04_Turned.mono _ _
      | exact series_Obeys.mono _ _ _ _
      | exact series_On.mono _ _ _ _ _
      | exact series_Poly.mono _ _ _
      | exact series_Right.mono _ _ _
      | exact LeO.none _
      | refine LeO.ite ?_ ?_
      | refine LeO.bind ?_ (fun _ => ?_)
theorem affidavitlaw04_SeriesRight.mono : ∀ a0 a1 a2 a3 k, LeO (affidavitlaw04_SeriesRight.f k a0 a1 a2 a3) (affidavitlaw04_SeriesRight.f (k + 1) a0 a1 a2 a3) := by
  intro a0 a1 a2 a3 k
  obtain ⟨ih0, ih1, ih2, ih3, ih4, ih5⟩ := affidavitlaw04_SeriesRight.mono_l k
  unfold affidavitlaw04_SeriesRight.f
  repeat' first
      | (with_reducible exact ih0 _ _ _ _ _)
      | (with_reducible exact ih1 _ _ _ _ _ _ _ _ _ _)
      | (with_reducible exact ih2 _ _ _ _ _ _ _ _)
      | (with_reducible exact ih3 _ _ _ _ _ _ _)
      | (with_reducible exact ih4 _ _ _ _ _)
      | (with_reducible exact ih5 _ _ _ _)
      | (with_reducible exact affidavitlaw04_awake.mono _)
      | (with_reducible exact affidavitref01_Has.mono _ _ _)
      | (with_reducible exact affidavitref01_Same.mono _ _ _)
      | (with_reducible exact affidavitref04_Obeys.mono _ _ _ _)
      | (with_reducible exact affidavitref04_Right.mono _ _ _)
      | (with_reducible exact affidavitref04_Sum.mono _ _ _ _ _)
      | (with_reducible exact affidavitref04_Turned.mono _ _)
      | (with_reducible exact series_Obeys.mono _ _ _ _)
      | (with_reducible exact series_On.mono _ _ _ _ _)
      | (with_reducible exact series_Poly.mono _ _ _)
      | (with_reducible exact series_Right.mono _ _ _)
      | (with_reducible exact LeO.refl _)
      | (with_reducible exact LeO.none _)
      | (with_reducible refine LeO.ite ?_ ?_)
      | (with_reducible refine LeO.bind ?_ (fun _ => ?_))
      | exact ih0 _ _ _ _ _
      | exact ih1 _ _ _ _ _ _ _ _ _ _
      | exact ih2 _ _ _ _ _ _ _ _
      | exact ih3 _ _ _ _ _ _ _
      | exact ih4 _ _ _ _ _
      | exact ih5 _ _ _ _
      | exact affidavitlaw04_awake.mono _
      | exact affidavitref01_Has.mono _ _ _
      | exact affidavitref01_Same.mono _ _ _
      | exact affidavitref04_Obeys.mono _ _ _ _
      | exact affidavitref04_Right.mono _ _ _
      | exact affidavitref04_Sum.mono _ _ _ _ _
      | exact affidavitref04_Turned.mono _ _
      | exact series_Obeys.mono _ _ _ _
      | exact series_On.mono _ _ _ _ _
      | exact series_Poly.mono _ _ _
      | exact series_Right.mono _ _ _
      | exact LeO.none _
      | refine LeO.ite ?_ ?_
      | refine LeO.bind ?_ (fun _ => ?_)
set_option maxHeartbeats 8000000 in
set_option maxRecDepth 100000 in
theorem affidavitlaw04_SeriesRight.calls (k : Nat) (a0 : Int) (A1 : Option Addr) (c1 : Nat) (l1 : List Int) (A2 : Option Addr) (c2 : Nat) (l2 : List Int) (a3 : Int) (r : Bool) (w : World) (hr1 : Kd.C (Kd.int .u64) w A1 l1.length l1) (hc1 : l1.length ≤ c1) (hr2 : Kd.C (Kd.int .u64) w A2 l2.length l2) (hc2 : l2.length ≤ c2) (h : affidavitlaw04_SeriesRight.f k a0 l1 l2 a3 = some r) :
    Calls Try.prog 3 #[.int .u64 a0, .slice A1 l1.length c1, .slice A2 l2.length c2, .int .i64 a3] w fun e w' => e = .returned (.bool r) ∧ Below w.heap.size w w' := by
  have HR1 := Aside0.mk hr1
  have HC1 := Aside0.mk hc1
  clear hr1 hc1
  have HR2 := Aside0.mk hr2
  have HC2 := Aside0.mk hc2
  clear hr2 hc2
  have HB := Aside0.mk (Below.refl w.heap.size w)
  have H : ((affidavitlaw04_awake.f k).bind fun t258 => (if t258 = true then (if (l1.length : Int) > 60 then (affidavitlaw04_SeriesRight.j0 k a0 l1 l2 a3 true) else (if (l2.length : Int) > 60 then (affidavitlaw04_SeriesRight.j0 k a0 l1 l2 a3 true) else (if a3 > 40 then (affidavitlaw04_SeriesRight.j0 k a0 l1 l2 a3 (decide (a3 ≤ 512))) else (affidavitlaw04_SeriesRight.j0 k a0 l1 l2 a3 false)))) else (none))) = some r := h
  clear h
  replace H := Option.bind_eq_some_iff.mp H
  obtain ⟨t258, A50, H⟩ := H
  replace H : (if t258 = true then (if (l1.length : Int) > 60 then (affidavitlaw04_SeriesRight.j0 k a0 l1 l2 a3 true) else (if (l2.length : Int) > 60 then (affidavitlaw04_SeriesRight.j0 k a0 l1 l2 a3 true) else (if a3 > 40 then (affidavitlaw04_SeriesRight.j0 k a0 l1 l2 a3 (decide (a3 ≤ 512))) else (affidavitlaw04_SeriesRight.j0 k a0 l1 l2 a3 false)))) else (none)) = some r := H
  have A5 := Aside0.mk A50
  clear A50
  by_cases c6 : t258 = true
  · subst c6
    have H1 : (if (l1.length : Int) > 60 then (affidavitlaw04_SeriesRight.j0 k a0 l1 l2 a3 true) else (if (l2.length : Int) > 60 then (affidavitlaw04_SeriesRight.j0 k a0 l1 l2 a3 true) else (if a3 > 40 then (affidavitlaw04_SeriesRight.j0 k a0 l1 l2 a3 (decide (a3 ≤ 512))) else (affidavitlaw04_SeriesRight.j0 k a0 l1 l2 a3 false)))) = some r := by rw [if_pos rfl] at H; exact H
    clear H
    have H := H1
    clear H1
    have HC7 := Aside0.mk H
    clear H
    go_enter Try.func3, Try.ntmps3
    go_upto_region 3 with (first | ((with_reducible refine gate_callee (f := 14) rfl ?_); refine goesL_ (some 15) rfl rfl Try.func14 (by kernel_rfl) rfl #[] rfl (by (try simp only [List.map_toArray, List.map_cons, List.map_nil]); first | done | rfl | (simp only [List.length_drop, List.length_take]; rfl)) ?_; (with_reducible refine (affidavitlaw04_awake.calls k  true _ A5.out).mono ?_); rintro e w8 ⟨rfl, hb⟩; refine ⟨_, rfl, ?_⟩; have n0_ := Aside0.mk (below_step (by repeat (first | (with_reducible first | exact HB.out | apply below_alloc | apply pw_below_drewN | apply below_drew1) | exact HB.out)) hb); clear HB; have HB := n0_; clear n0_; (try clear hb); (try clear hb2); (try clear hk); (try clear hi)))
    (try simp only [Act.put, List.setIfInBounds_toArray, List.set_cons_zero, List.set_cons_succ])
    go_cut [32] (fun v32 wc => ∃ (kq : Nat) (x32_6 : Bool), v32 = .bool x32_6 ∧ Aside0 (affidavitlaw04_SeriesRight.j0 kq a0 l1 l2 a3 x32_6 = some r) ∧ Aside0 (kq ≤ k) ∧ Aside0 (Below w.heap.size w wc))
    case first =>
      have H := HC7.out
      clear HC7
      by_cases c9 : (l1.length : Int) > 60
      · rw [if_pos c9] at H
        have c9b0 : decide (60 < (l1.length : Int)) = true := decide_eq_true c9
        have c9b1 : decide (60 < l1.length) = true := decide_eq_true (by omega)
        clear c9
        (first | rw [c9b0] | (simp only [i64_w, i32_w]; rw [c9b0]) | skip)
        have H' := Aside0.mk H
        clear H
        go_wp2
        go_meet
        case rel => exact ⟨_, (true), (by first | rfl | (simp; done) | (simp [*]; done)), H', ⟨by first | omega | exact Nat.le_refl _⟩, ⟨by repeat (first | (with_reducible first | exact HB.out | apply below_alloc | apply pw_below_drewN | apply below_drew1) | exact HB.out)⟩⟩
      · rw [if_neg c9] at H
        have c9b0 : decide (60 < (l1.length : Int)) = false := decide_eq_false c9
        have c9b1 : decide (60 < l1.length) = false := decide_eq_false (by omega)
        clear c9
        (first | rw [c9b0] | (simp only [i64_w, i32_w]; rw [c9b0]) | skip)
        by_cases c10 : (l2.length : Int) > 60
        · rw [if_pos c10] at H
          have c10b0 : decide (60 < (l2.length : Int)) = true := decide_eq_true c10
          have c10b1 : decide (60 < l2.length) = true := decide_eq_true (by omega)
          clear c10
          have H' := Aside0.mk H
          clear H
          go_wp2
          go_meet
          case rel => exact ⟨_, (true), (by first | rfl | (simp; done) | (simp [*]; done)), H', ⟨by first | omega | exact Nat.le_refl _⟩, ⟨by repeat (first | (with_reducible first | exact HB.out | apply below_alloc | apply pw_below_drewN | apply below_drew1) | exact HB.out)⟩⟩
        · rw [if_neg c10] at H
          have c10b0 : decide (60 < (l2.length : Int)) = false := decide_eq_false c10
          have c10b1 : decide (60 < l2.length) = false := decide_eq_false (by omega)
          clear c10
          by_cases c11 : a3 > 40
          · rw [if_pos c11] at H
            have c11b0 : decide (40 < a3) = true := decide_eq_true c11
            clear c11
            have H' := Aside0.mk H
            clear H
            go_wp2
            go_meet
            case rel => exact ⟨_, (decide (a3 ≤ 512)), (by first | rfl | (simp; done) | (simp [*]; done)), H', ⟨by first | omega | exact Nat.le_refl _⟩, ⟨by repeat (first | (with_reducible first | exact HB.out | apply below_alloc | apply pw_below_drewN | apply below_drew1) | exact HB.out)⟩⟩
          · rw [if_neg c11] at H
            have c11b0 : decide (40 < a3) = false := decide_eq_false c11
            clear c11
            have H' := Aside0.mk H
            clear H
            go_wp2
            go_meet
            case rel => exact ⟨_, (false), (by first | rfl | (simp; done) | (simp [*]; done)), H', ⟨by first | omega | exact Nat.le_refl _⟩, ⟨by repeat (first | (with_reducible first | exact HB.out | apply below_alloc | apply pw_below_drewN | apply below_drew1) | exact HB.out)⟩⟩
    case rest =>
      clear HC7
      try clear c1
      try clear c2
      try clear p2
      try clear c3
      try clear c6
      try clear c9
      try clear c9b0
      try clear c9b1
      try clear c10
      try clear c10b0
      try clear c10b1
      try clear c11
      try clear c11b0
      obtain ⟨kq, x32_6, rfl, HA, HJ6, HB⟩ := hcut
      cases kq with
      | zero => exact absurd HA.out (by simp [affidavitlaw04_SeriesRight.j0])
      | succ kj6 =>
        have H := HA.out
        clear HA
        simp only [affidavitlaw04_SeriesRight.j0] at H
        by_cases c12 : x32_6 = true
        · subst c12
          have H1 : (some true) = some r := by rw [if_pos rfl] at H; exact H
          clear H
          have H := H1
          clear H1
          obtain rfl := Option.some.inj H
          go_wp2
          go_ret
          exact ⟨by first | rfl | (simp [errW_none, errW_some] <;> rfl) | (simp [*, errW_none, errW_some] <;> rfl), by repeat (first | (with_reducible first | exact HB.out | apply below_alloc | apply pw_below_drewN | apply below_drew1) | exact HB.out)⟩
        · replace c12 := Bool.eq_false_iff.mpr c12
          subst c12
          have H1 : ((affidavitref04_Right.f kj6 a0 l2).bind fun t259 => ((series_On.f kj6 a0 l1 l2 a3).bind fun bt260 => ((series_Poly.f kj6 a0 l2).bind fun bt264 => ((series_Right.f kj6 a0 l2).bind fun t268 => (if (t268 != t259) = true then (none) else ((series_Obeys.f kj6 a0 l1 l2).bind fun t269 => ((affidavitref04_Obeys.f kj6 a0 l1 l2).bind fun t270 => (affidavitlaw04_SeriesRight.j1 kj6 a0 l1 l2 a3 t259 bt260.1 bt260.2 bt264.1 bt264.2 (t269 != t270))))))))) = some r := by rw [if_neg (show ¬ (false = true) by decide)] at H; exact H
          clear H
          have H := H1
          clear H1
          replace H := Option.bind_eq_some_iff.mp H
          obtain ⟨t259, A130, H⟩ := H
          replace H : ((series_On.f kj6 a0 l1 l2 a3).bind fun bt260 => ((series_Poly.f kj6 a0 l2).bind fun bt264 => ((series_Right.f kj6 a0 l2).bind fun t268 => (if (t268 != t259) = true then (none) else ((series_Obeys.f kj6 a0 l1 l2).bind fun t269 => ((affidavitref04_Obeys.f kj6 a0 l1 l2).bind fun t270 => (affidavitlaw04_SeriesRight.j1 kj6 a0 l1 l2 a3 t259 bt260.1 bt260.2 bt264.1 bt264.2 (t269 != t270)))))))) = some r := H
          have A13 := Aside0.mk A130
          clear A130
          replace H := Option.bind_eq_some_iff.mp H
          obtain ⟨⟨t260, t261⟩, A140, H⟩ := H
          replace H : ((series_Poly.f kj6 a0 l2).bind fun bt264 => ((series_Right.f kj6 a0 l2).bind fun t268 => (if (t268 != t259) = true then (none) else ((series_Obeys.f kj6 a0 l1 l2).bind fun t269 => ((affidavitref04_Obeys.f kj6 a0 l1 l2).bind fun t270 => (affidavitlaw04_SeriesRight.j1 kj6 a0 l1 l2 a3 t259 t260 t261 bt264.1 bt264.2 (t269 != t270))))))) = some r := H
          have A14 := Aside0.mk A140
          clear A140
          replace H := Option.bind_eq_some_iff.mp H
          obtain ⟨⟨t264, t267⟩, A150, H⟩ := H
          replace H : ((series_Right.f kj6 a0 l2).bind fun t268 => (if (t268 != t259) = true then (none) else ((series_Obeys.f kj6 a0 l1 l2).bind fun t269 => ((affidavitref04_Obeys.f kj6 a0 l1 l2).bind fun t270 => (affidavitlaw04_SeriesRight.j1 kj6 a0 l1 l2 a3 t259 t260 t261 t264 t267 (t269 != t270)))))) = some r := H
          have A15 := Aside0.mk A150
          clear A150
          have HC16 := Aside0.mk H
          clear H
          go_upto_region 8 with (first | ((with_reducible refine gate_callee (f := 15) rfl ?_); refine goesL_ (some 35) rfl rfl Try.func15 (by kernel_rfl) rfl #[.int .u64 a0, .slice A2 l2.length c2] rfl (by (try simp only [List.map_toArray, List.map_cons, List.map_nil]); first | done | rfl | (simp only [List.length_drop, List.length_take]; rfl)) ?_; (with_reducible refine (affidavitref04_Right.calls kj6 a0 _ _ l2 t259 _ ?side1 ?side2 A13.out).mono ?_); (case side1 => repeat (first | exact (Kd.C_below HR2.out HB.out) | (with_reducible refine Kd.C_alloc ?_ _) | (with_reducible refine Kd.C_drewN ?_ _) | (with_reducible refine Kd.C_drew ?_))); (case side2 => exact HC2.out); rintro e w' ⟨rfl, ⟨nd, rfl⟩⟩; refine ⟨_, rfl, ?_⟩) | ((with_reducible refine gate_callee (f := 16) rfl ?_); refine goesL_ (some 41) rfl rfl Try.func16 (by kernel_rfl) rfl #[.int .u64 a0, .slice A1 l1.length c1, .slice A2 l2.length c2, .int .i64 a3] rfl (by (try simp only [List.map_toArray, List.map_cons, List.map_nil]); first | done | rfl | (simp only [List.length_drop, List.length_take]; rfl)) ?_; (with_reducible refine (series_On.calls kj6 a0 _ _ l1 _ _ l2 a3 t260 t261 _ ?side1 ?side2 ?side3 ?side4 A14.out).mono ?_); (case side1 => repeat (first | exact (Kd.C_below HR1.out (by repeat (first | (with_reducible first | exact HB.out | apply below_alloc | apply pw_below_drewN | apply below_drew1) | exact HB.out))) | (with_reducible refine Kd.C_alloc ?_ _) | (with_reducible refine Kd.C_drewN ?_ _) | (with_reducible refine Kd.C_drew ?_))); (case side2 => exact HC1.out); (case side3 => repeat (first | exact (Kd.C_below HR2.out (by repeat (first | (with_reducible first | exact HB.out | apply below_alloc | apply pw_below_drewN | apply below_drew1) | exact HB.out))) | (with_reducible refine Kd.C_alloc ?_ _) | (with_reducible refine Kd.C_drewN ?_ _) | (with_reducible refine Kd.C_drew ?_))); (case side4 => exact HC2.out); rintro e w17 ⟨v262, rfl, ho0, hb⟩; refine ⟨_, rfl, ?_⟩; have n0_ := Aside0.mk (Kd.R_lower ho0 (below_size (by repeat (first | (with_reducible first | exact HB.out | apply below_alloc | apply pw_below_drewN | apply below_drew1) | exact HB.out)))); have n1_ := Aside0.mk (below_step (by repeat (first | (with_reducible first | exact HB.out | apply below_alloc | apply pw_below_drewN | apply below_drew1) | exact HB.out)) hb); clear HB; have HO263 := n0_; have HB := n1_; clear n0_ n1_; (try clear hb); (try clear hb2); (try clear hk); (try clear hi); (try clear ho0)) | ((with_reducible refine gate_callee (f := 17) rfl ?_); refine goesL_ (some 47) rfl rfl Try.func17 (by kernel_rfl) rfl #[.int .u64 a0, .slice A2 l2.length c2] rfl (by (try simp only [List.map_toArray, List.map_cons, List.map_nil]); first | done | rfl | (simp only [List.length_drop, List.length_take]; rfl)) ?_; (with_reducible refine (series_Poly.calls kj6 a0 _ _ l2 t264 t267 _ ?side1 ?side2 A15.out).mono ?_); (case side1 => repeat (first | exact (Kd.C_below HR2.out HB.out) | (with_reducible refine Kd.C_alloc ?_ _) | (with_reducible refine Kd.C_drewN ?_ _) | (with_reducible refine Kd.C_drew ?_))); (case side2 => exact HC2.out); rintro e w18 ⟨v265, rfl, ho0, hb⟩; refine ⟨_, rfl, ?_⟩; have n0_ := Aside0.mk (Kd.R_below (by (with_reducible repeat (first | apply Kd.R_alloc | apply Kd.R_drewN | apply Kd.R_drew)); exact HO263.out) hb); have n1_ := Aside0.mk (Kd.V_lower (Kd.V_mono (ok' := fun k_ => some k_ ≠ (v262 : Value).ownBlock) ho0 (fun k_ hk_ => (Kd.fresh' (Kd.R_lt (by (with_reducible repeat (first | apply Kd.R_alloc | apply Kd.R_drewN | apply Kd.R_drew)); exact HO263.out)) k_ hk_))) (below_size (by repeat (first | (with_reducible first | exact HB.out | apply below_alloc | apply pw_below_drewN | apply below_drew1) | exact HB.out)))); have n2_ := Aside0.mk (below_step (by repeat (first | (with_reducible first | exact HB.out | apply below_alloc | apply pw_below_drewN | apply below_drew1) | exact HB.out)) hb); clear HO263; clear HB; have HO263 := n0_; have HO266 := n1_; have HB := n2_; clear n0_ n1_ n2_; (try clear hb); (try clear hb2); (try clear hk); (try clear hi); (try clear ho0)))
          (try simp only [Act.put, List.setIfInBounds_toArray, List.set_cons_zero, List.set_cons_succ])
          go_cut [65] (fun v65 wc => ∃ (kq : Nat) (x65_15 : Bool), v65 = .bool x65_15 ∧ Aside0 (affidavitlaw04_SeriesRight.j1 kq a0 l1 l2 a3 t259 t260 t261 t264 t267 x65_15 = some r) ∧ Aside0 (kq ≤ kj6) ∧ Aside0 (Kd.R (Kd.int .u64) 22 wc w.heap.size (fun _ => True) v262 t260) ∧ Aside0 (Kd.V (Kd.int .u64) 22 wc w.heap.size (fun k_ => some k_ ≠ (v262 : Value).ownBlock) v265 t264) ∧ Aside0 (Below w.heap.size w wc))
          case first =>
            have H := HC16.out
            clear HC16
            replace H := Option.bind_eq_some_iff.mp H
            obtain ⟨t268, A190, H⟩ := H
            replace H : (if (t268 != t259) = true then (none) else ((series_Obeys.f kj6 a0 l1 l2).bind fun t269 => ((affidavitref04_Obeys.f kj6 a0 l1 l2).bind fun t270 => (affidavitlaw04_SeriesRight.j1 kj6 a0 l1 l2 a3 t259 t260 t261 t264 t267 (t269 != t270))))) = some r := H
            have A19 := Aside0.mk A190
            clear A190
            by_cases c20 : (t268 != t259) = true
            · rw [if_pos c20] at H
              exact absurd H (by simp)
            · rw [if_neg c20] at H
              have c20b0 : (t268 != t259) = false := by simpa using c20
              (try (have c20b1 : decide (t268 = t259) = true := by simpa using c20))
              (try (have c20b2 : (t268 == t259) = true := by simpa using c20))
              clear c20
              (first | rw [c20b0] | (simp only [i64_w, i32_w]; rw [c20b0]) | skip)
              replace H := Option.bind_eq_some_iff.mp H
              obtain ⟨t269, A210, H⟩ := H
              replace H : ((affidavitref04_Obeys.f kj6 a0 l1 l2).bind fun t270 => (affidavitlaw04_SeriesRight.j1 kj6 a0 l1 l2 a3 t259 t260 t261 t264 t267 (t269 != t270))) = some r := H
              have A21 := Aside0.mk A210
              clear A210
              replace H := Option.bind_eq_some_iff.mp H
              obtain ⟨t270, A220, H⟩ := H
              replace H : (affidavitlaw04_SeriesRight.j1 kj6 a0 l1 l2 a3 t259 t260 t261 t264 t267 (t269 != t270)) = some r := H
              have A22 := Aside0.mk A220
              clear A220
              have H' := Aside0.mk H
              clear H
              go_wp2_with (first | ((with_reducible refine gate_callee (f := 18) rfl ?_); refine goesL_ (some 52) rfl rfl Try.func18 (by kernel_rfl) rfl #[.int .u64 a0, .slice A2 l2.length c2] rfl (by (try simp only [List.map_toArray, List.map_cons, List.map_nil]); first | done | rfl | (simp only [List.length_drop, List.length_take]; rfl)) ?_; (with_reducible refine (series_Right.calls kj6 a0 _ _ l2 t268 _ ?side1 ?side2 A19.out).mono ?_); (case side1 => repeat (first | exact (Kd.C_below HR2.out HB.out) | (with_reducible refine Kd.C_alloc ?_ _) | (with_reducible refine Kd.C_drewN ?_ _) | (with_reducible refine Kd.C_drew ?_))); (case side2 => exact HC2.out); rintro e w' ⟨rfl, ⟨nd, rfl⟩⟩; refine ⟨_, rfl, ?_⟩) | (go_at_call 19; (with_reducible refine (series_Obeys.calls kj6 a0 _ _ l1 _ _ l2 t269 _ ?side1 ?side2 ?side3 ?side4 A21.out).mono ?_); (case side1 => repeat (first | exact (Kd.C_below HR1.out (by repeat (first | (with_reducible first | exact HB.out | apply below_alloc | apply pw_below_drewN | apply below_drew1) | exact HB.out))) | (with_reducible refine Kd.C_alloc ?_ _) | (with_reducible refine Kd.C_drewN ?_ _) | (with_reducible refine Kd.C_drew ?_))); (case side2 => exact HC1.out); (case side3 => repeat (first | exact (Kd.C_below HR2.out (by repeat (first | (with_reducible first | exact HB.out | apply below_alloc | apply pw_below_drewN | apply below_drew1) | exact HB.out))) | (with_reducible refine Kd.C_alloc ?_ _) | (with_reducible refine Kd.C_drewN ?_ _) | (with_reducible refine Kd.C_drew ?_))); (case side4 => exact HC2.out); rintro e w23 ⟨rfl, hb⟩; have n0_ := Aside0.mk (Kd.R_below (by (with_reducible repeat (first | apply Kd.R_alloc | apply Kd.R_drewN | apply Kd.R_drew)); exact HO263.out) hb); have n1_ := Aside0.mk (Kd.V_below (by (with_reducible repeat (first | apply Kd.V_alloc | apply Kd.V_drewN | apply Kd.V_drew)); exact HO266.out) hb); have n2_ := Aside0.mk (below_step (by repeat (first | (with_reducible first | exact HB.out | apply below_alloc | apply pw_below_drewN | apply below_drew1) | exact HB.out)) hb); clear HO263; clear HO266; clear HB; have HO263 := n0_; have HO266 := n1_; have HB := n2_; clear n0_ n1_ n2_; (try clear hb); (try clear hb2); (try clear hk); (try clear hi)) | (go_at_call 20; (with_reducible refine (affidavitref04_Obeys.calls kj6 a0 _ _ l1 _ _ l2 t270 _ ?side1 ?side2 ?side3 ?side4 A22.out).mono ?_); (case side1 => repeat (first | exact (Kd.C_below HR1.out HB.out) | (with_reducible refine Kd.C_alloc ?_ _) | (with_reducible refine Kd.C_drewN ?_ _) | (with_reducible refine Kd.C_drew ?_))); (case side2 => exact HC1.out); (case side3 => repeat (first | exact (Kd.C_below HR2.out HB.out) | (with_reducible refine Kd.C_alloc ?_ _) | (with_reducible refine Kd.C_drewN ?_ _) | (with_reducible refine Kd.C_drew ?_))); (case side4 => exact HC2.out); rintro e w' ⟨rfl, ⟨nd, rfl⟩⟩))
              go_meet
              case rel => exact ⟨_, ((t269 != t270)), (by first | rfl | (simp; done) | (simp [*]; done)), H', ⟨by have := HJ6.out; first | omega | exact Nat.le_refl _⟩, ⟨by (with_reducible repeat (first | apply Kd.R_alloc | apply Kd.R_drewN | apply Kd.R_drew)); exact HO263.out⟩, ⟨by (with_reducible repeat (first | apply Kd.V_alloc | apply Kd.V_drewN | apply Kd.V_drew)); exact HO266.out⟩, ⟨by repeat (first | (with_reducible first | exact HB.out | apply below_alloc | apply pw_below_drewN | apply below_drew1) | exact HB.out)⟩⟩
          case rest =>
            clear HC16
            try clear c1
            try clear c2
            try clear p2
            try clear c3
            try clear c6
            try clear c9
            try clear c9b0
            try clear c9b1
            try clear c10
            try clear c10b0
            try clear c10b1
            try clear c11
            try clear c11b0
            try clear c12
            try clear c14
            try clear c15
            try clear c16
            try clear c17
            try clear c18
            try clear c20
            try clear c20b0
            try clear c20b1
            try clear c20b2
            try clear p2
            obtain ⟨kq, x65_15, rfl, HA, HJ15, HO_10, HO_12, HB⟩ := hcut
            cases kq with
            | zero => exact absurd HA.out (by simp [affidavitlaw04_SeriesRight.j1])
            | succ kj15 =>
              have H := HA.out
              clear HA
              simp only [affidavitlaw04_SeriesRight.j1] at H
              by_cases c24 : x65_15 = true
              · subst c24
                have H1 : (none) = some r := by rw [if_pos rfl] at H; exact H
                clear H
                have H := H1
                clear H1
                exact absurd H (by simp)
              · replace c24 := Bool.eq_false_iff.mpr c24
                subst c24
                have H1 : (if t259 = true then (if t267 = 0 then ((affidavitref04_Turned.f kj15 l2).bind fun t271 => ((affidavitref01_Same.f kj15 t264 t271).bind fun t274 => (affidavitlaw04_SeriesRight.j2 kj15 a0 l1 l2 a3 t259 t260 t261 (!t274)))) else (none)) else (if t267 = 1 then (if (t264.length : Int) = 0 then (affidavitlaw04_SeriesRight.j2 kj15 a0 l1 l2 a3 t259 t260 t261 false) else (none)) else (none))) = some r := by rw [if_neg (show ¬ (false = true) by decide)] at H; exact H
                clear H
                have H := H1
                clear H1
                have HC25 := Aside0.mk H
                clear H
                go_upto_region 10 with (fail)
                go_cut [90] (fun v90 wc => ∃ (kq : Nat) (x90_24 : Bool), v90 = .bool x90_24 ∧ Aside0 (affidavitlaw04_SeriesRight.j2 kq a0 l1 l2 a3 t259 t260 t261 x90_24 = some r) ∧ Aside0 (kq ≤ kj15) ∧ Aside0 (Kd.R (Kd.int .u64) 22 wc w.heap.size (fun _ => True) v262 t260) ∧ Aside0 (Below w.heap.size w wc))
                case first =>
                  have H := HC25.out
                  clear HC25
                  by_cases c26 : t259 = true
                  · subst c26
                    have H1 : (if t267 = 0 then ((affidavitref04_Turned.f kj15 l2).bind fun t271 => ((affidavitref01_Same.f kj15 t264 t271).bind fun t274 => (affidavitlaw04_SeriesRight.j2 kj15 a0 l1 l2 a3 true t260 t261 (!t274)))) else (none)) = some r := by rw [if_pos rfl] at H; exact H
                    clear H
                    have H := H1
                    clear H1
                    by_cases c27 : t267 = 0
                    · rw [if_pos c27] at H
                      have c27b0 : (t267 == 0) = true := beq_iff_eq.mpr c27
                      have c27b1 : (t267 != 0) = false := bne_eq_false_iff_eq.mpr c27
                      clear c27
                      (first | rw [c27b0] | (simp only [i64_w, i32_w]; rw [c27b0]) | skip)
                      replace H := Option.bind_eq_some_iff.mp H
                      obtain ⟨t271, A280, H⟩ := H
                      replace H : ((affidavitref01_Same.f kj15 t264 t271).bind fun t274 => (affidavitlaw04_SeriesRight.j2 kj15 a0 l1 l2 a3 true t260 t261 (!t274))) = some r := H
                      have A28 := Aside0.mk A280
                      clear A280
                      replace H := Option.bind_eq_some_iff.mp H
                      obtain ⟨t274, A290, H⟩ := H
                      replace H : (affidavitlaw04_SeriesRight.j2 kj15 a0 l1 l2 a3 true t260 t261 (!t274)) = some r := H
                      have A29 := Aside0.mk A290
                      clear A290
                      have H' := Aside0.mk H
                      clear H
                      go_wp2_with (first | (go_at_call 22; (with_reducible refine (affidavitref04_Turned.calls kj15 _ _ l2 t271 _ ?side1 ?side2 A28.out).mono ?_); (case side1 => repeat (first | exact (Kd.C_below HR2.out HB.out) | (with_reducible refine Kd.C_alloc ?_ _) | (with_reducible refine Kd.C_drewN ?_ _) | (with_reducible refine Kd.C_drew ?_))); (case side2 => exact HC2.out); rintro e w30 ⟨v272, rfl, ho0, hb⟩; have n0_ := Aside0.mk (Kd.R_elder' (by (with_reducible repeat (first | apply Kd.R_alloc | apply Kd.R_drewN | apply Kd.R_drew)); exact HO_10.out) (Kd.R_base ho0) hb); have n1_ := Aside0.mk (Kd.V_elder' (by (with_reducible repeat (first | apply Kd.V_alloc | apply Kd.V_drewN | apply Kd.V_drew)); exact HO_12.out) (Kd.R_base ho0) hb); have n2_ := Aside0.mk (Kd.R_lower (Kd.R_new' ho0 (Kd.R_lt (by (with_reducible repeat (first | apply Kd.R_alloc | apply Kd.R_drewN | apply Kd.R_drew)); exact HO_10.out))) (below_size (by repeat (first | (with_reducible first | exact HB.out | apply below_alloc | apply pw_below_drewN | apply below_drew1) | exact HB.out)))); have n3_ := Aside0.mk (below_step (by repeat (first | (with_reducible first | exact HB.out | apply below_alloc | apply pw_below_drewN | apply below_drew1) | exact HB.out)) hb); clear HO_10; clear HO_12; clear HB; have HO_10 := n0_; have HO_12 := n1_; have HO273 := n2_; have HB := n3_; clear n0_ n1_ n2_ n3_; (try clear hb); (try clear hb2); (try clear hk); (try clear hi); (try clear ho0); obtain ⟨Ao31, co31, eo31⟩ := Kd.V_slice HO_12.out; subst eo31; obtain ⟨Ao32, co32, eo32⟩ := Kd.R_slice HO273.out; subst eo32) | (go_at_call 21; (with_reducible refine (affidavitref01_Same.calls kj15 _ _ t264 _ _ t271 t274 _ ?side1 ?side2 ?side3 ?side4 A29.out).mono ?_); (case side1 => repeat (first | exact (Kd.V_reads' HO_12.out).2.2 | (with_reducible refine Kd.C_alloc ?_ _) | (with_reducible refine Kd.C_drewN ?_ _) | (with_reducible refine Kd.C_drew ?_))); (case side2 => exact (Kd.V_reads' HO_12.out).2.1); (case side3 => repeat (first | exact (Kd.R_reads' HO273.out).2.2 | (with_reducible refine Kd.C_alloc ?_ _) | (with_reducible refine Kd.C_drewN ?_ _) | (with_reducible refine Kd.C_drew ?_))); (case side4 => exact (Kd.R_reads' HO273.out).2.1); rintro e w' ⟨rfl, ⟨nd, rfl⟩⟩))
                      go_meet
                      case rel => exact ⟨_, (!t274), (by first | rfl | (simp; done) | (simp [*]; done)), H', ⟨by have := HJ6.out; have := HJ15.out; first | omega | exact Nat.le_refl _⟩, ⟨by (with_reducible repeat (first | apply Kd.R_alloc | apply Kd.R_drewN | apply Kd.R_drew)); exact Kd.R_mono HO_10.out (fun _ hk => trivial)⟩, ⟨by repeat (first | (with_reducible first | exact HB.out | apply below_alloc | apply pw_below_drewN | apply below_drew1) | exact HB.out)⟩⟩
                    · rw [if_neg c27] at H
                      exact absurd H (by simp)
                  · replace c26 := Bool.eq_false_iff.mpr c26
                    subst c26
                    have H1 : (if t267 = 1 then (if (t264.length : Int) = 0 then (affidavitlaw04_SeriesRight.j2 kj15 a0 l1 l2 a3 false t260 t261 false) else (none)) else (none)) = some r := by rw [if_neg (show ¬ (false = true) by decide)] at H; exact H
                    clear H
                    have H := H1
                    clear H1
                    by_cases c33 : t267 = 1
                    · rw [if_pos c33] at H
                      have c33b0 : (t267 == 1) = true := beq_iff_eq.mpr c33
                      have c33b1 : (t267 != 1) = false := bne_eq_false_iff_eq.mpr c33
                      clear c33
                      by_cases c34 : (t264.length : Int) = 0
                      · rw [if_pos c34] at H
                        have c34b0 : ((t264.length : Int) == 0) = true := beq_iff_eq.mpr c34
                        have c34b1 : ((t264.length : Int) != 0) = false := bne_eq_false_iff_eq.mpr c34
                        clear c34
                        have H' := Aside0.mk H
                        clear H
                        obtain ⟨Ao35, co35, eo35⟩ := Kd.V_slice HO_12.out
                        subst eo35
                        go_wp2
                        go_meet
                        case rel => exact ⟨_, (false), (by first | rfl | (simp; done) | (simp [*]; done)), H', ⟨by have := HJ6.out; have := HJ15.out; first | omega | exact Nat.le_refl _⟩, ⟨by (with_reducible repeat (first | apply Kd.R_alloc | apply Kd.R_drewN | apply Kd.R_drew)); exact HO_10.out⟩, ⟨by repeat (first | (with_reducible first | exact HB.out | apply below_alloc | apply pw_below_drewN | apply below_drew1) | exact HB.out)⟩⟩
                      · rw [if_neg c34] at H
                        exact absurd H (by simp)
                    · rw [if_neg c33] at H
                      exact absurd H (by simp)
                case rest =>
                  clear HC25
                  try clear c1
                  try clear c2
                  try clear p2
                  try clear c3
                  try clear c6
                  try clear c9
                  try clear c9b0
                  try clear c9b1
                  try clear c10
                  try clear c10b0
                  try clear c10b1
                  try clear c11
                  try clear c11b0
                  try clear c12
                  try clear c14
                  try clear c15
                  try clear c16
                  try clear c17
                  try clear c18
                  try clear c20
                  try clear c20b0
                  try clear c20b1
                  try clear c20b2
                  try clear c24
                  try clear c26
                  try clear c27
                  try clear c27b0
                  try clear c27b1
                  try clear c33
                  try clear c33b0
                  try clear c33b1
                  try clear c34
                  try clear c34b0
                  try clear c34b1
                  try clear p2
                  obtain ⟨kq, x90_24, rfl, HA, HJ24, HO_10, HB⟩ := hcut
                  cases kq with
                  | zero => exact absurd HA.out (by simp [affidavitlaw04_SeriesRight.j2])
                  | succ kj24 =>
                    have H := HA.out
                    clear HA
                    simp only [affidavitlaw04_SeriesRight.j2] at H
                    by_cases c36 : x90_24 = true
                    · subst c36
                      have H1 : (none) = some r := by rw [if_pos rfl] at H; exact H
                      clear H
                      have H := H1
                      clear H1
                      exact absurd H (by simp)
                    · replace c36 := Bool.eq_false_iff.mpr c36
                      subst c36
                      have H1 : (if t259 = true then ((affidavitref01_Has.f kj24 a0 l1).bind fun t275 => (if t275 = true then (if a3 < 0 then (affidavitlaw04_SeriesRight.j3 kj24 a0 l1 l2 a3 t260 t261 true) else (affidavitlaw04_SeriesRight.j3 kj24 a0 l1 l2 a3 t260 t261 (decide (a3 > 512)))) else (affidavitlaw04_SeriesRight.j3 kj24 a0 l1 l2 a3 t260 t261 true))) else (affidavitlaw04_SeriesRight.j3 kj24 a0 l1 l2 a3 t260 t261 true)) = some r := by rw [if_neg (show ¬ (false = true) by decide)] at H; exact H
                      clear H
                      have H := H1
                      clear H1
                      have HC37 := Aside0.mk H
                      clear H
                      go_upto_region 12 with (fail)
                      go_cut [106] (fun v106 wc => ∃ (kq : Nat) (x106_36 : Bool), v106 = .bool x106_36 ∧ Aside0 (affidavitlaw04_SeriesRight.j3 kq a0 l1 l2 a3 t260 t261 x106_36 = some r) ∧ Aside0 (kq ≤ kj24) ∧ Aside0 (Kd.R (Kd.int .u64) 22 wc w.heap.size (fun _ => True) v262 t260) ∧ Aside0 (Below w.heap.size w wc))
                      case first =>
                        have H := HC37.out
                        clear HC37
                        by_cases c38 : t259 = true
                        · subst c38
                          have H1 : ((affidavitref01_Has.f kj24 a0 l1).bind fun t275 => (if t275 = true then (if a3 < 0 then (affidavitlaw04_SeriesRight.j3 kj24 a0 l1 l2 a3 t260 t261 true) else (affidavitlaw04_SeriesRight.j3 kj24 a0 l1 l2 a3 t260 t261 (decide (a3 > 512)))) else (affidavitlaw04_SeriesRight.j3 kj24 a0 l1 l2 a3 t260 t261 true))) = some r := by rw [if_pos rfl] at H; exact H
                          clear H
                          have H := H1
                          clear H1
                          replace H := Option.bind_eq_some_iff.mp H
                          obtain ⟨t275, A390, H⟩ := H
                          replace H : (if t275 = true then (if a3 < 0 then (affidavitlaw04_SeriesRight.j3 kj24 a0 l1 l2 a3 t260 t261 true) else (affidavitlaw04_SeriesRight.j3 kj24 a0 l1 l2 a3 t260 t261 (decide (a3 > 512)))) else (affidavitlaw04_SeriesRight.j3 kj24 a0 l1 l2 a3 t260 t261 true)) = some r := H
                          have A39 := Aside0.mk A390
                          clear A390
                          by_cases c40 : t275 = true
                          · subst c40
                            have H1 : (if a3 < 0 then (affidavitlaw04_SeriesRight.j3 kj24 a0 l1 l2 a3 t260 t261 true) else (affidavitlaw04_SeriesRight.j3 kj24 a0 l1 l2 a3 t260 t261 (decide (a3 > 512)))) = some r := by rw [if_pos rfl] at H; exact H
                            clear H
                            have H := H1
                            clear H1
                            by_cases c41 : a3 < 0
                            · rw [if_pos c41] at H
                              have c41b0 : decide (a3 < 0) = true := decide_eq_true c41
                              clear c41
                              (first | rw [c41b0] | (simp only [i64_w, i32_w]; rw [c41b0]) | skip)
                              have H' := Aside0.mk H
                              clear H
                              go_wp2_with (first | (go_at_call 23; (with_reducible refine (affidavitref01_Has.calls kj24 a0 _ _ l1 true _ ?side1 ?side2 A39.out).mono ?_); (case side1 => repeat (first | exact (Kd.C_below HR1.out HB.out) | (with_reducible refine Kd.C_alloc ?_ _) | (with_reducible refine Kd.C_drewN ?_ _) | (with_reducible refine Kd.C_drew ?_))); (case side2 => exact HC1.out); rintro e w' ⟨rfl, ⟨nd, rfl⟩⟩))
                              go_meet
                              case rel => exact ⟨_, (true), (by first | rfl | (simp; done) | (simp [*]; done)), H', ⟨by have := HJ6.out; have := HJ15.out; have := HJ24.out; first | omega | exact Nat.le_refl _⟩, ⟨by (with_reducible repeat (first | apply Kd.R_alloc | apply Kd.R_drewN | apply Kd.R_drew)); exact HO_10.out⟩, ⟨by repeat (first | (with_reducible first | exact HB.out | apply below_alloc | apply pw_below_drewN | apply below_drew1) | exact HB.out)⟩⟩
                            · rw [if_neg c41] at H
                              have c41b0 : decide (a3 < 0) = false := decide_eq_false c41
                              clear c41
                              (first | rw [c41b0] | (simp only [i64_w, i32_w]; rw [c41b0]) | skip)
                              have H' := Aside0.mk H
                              clear H
                              go_wp2_with (first | (go_at_call 23; (with_reducible refine (affidavitref01_Has.calls kj24 a0 _ _ l1 true _ ?side1 ?side2 A39.out).mono ?_); (case side1 => repeat (first | exact (Kd.C_below HR1.out HB.out) | (with_reducible refine Kd.C_alloc ?_ _) | (with_reducible refine Kd.C_drewN ?_ _) | (with_reducible refine Kd.C_drew ?_))); (case side2 => exact HC1.out); rintro e w' ⟨rfl, ⟨nd, rfl⟩⟩))
                              go_meet
                              case rel => exact ⟨_, (decide (a3 > 512)), (by first | rfl | (simp; done) | (simp [*]; done)), H', ⟨by have := HJ6.out; have := HJ15.out; have := HJ24.out; first | omega | exact Nat.le_refl _⟩, ⟨by (with_reducible repeat (first | apply Kd.R_alloc | apply Kd.R_drewN | apply Kd.R_drew)); exact HO_10.out⟩, ⟨by repeat (first | (with_reducible first | exact HB.out | apply below_alloc | apply pw_below_drewN | apply below_drew1) | exact HB.out)⟩⟩
                          · replace c40 := Bool.eq_false_iff.mpr c40
                            subst c40
                            have H1 : (affidavitlaw04_SeriesRight.j3 kj24 a0 l1 l2 a3 t260 t261 true) = some r := by rw [if_neg (show ¬ (false = true) by decide)] at H; exact H
                            clear H
                            have H := H1
                            clear H1
                            have H' := Aside0.mk H
                            clear H
                            go_wp2_with (first | (go_at_call 23; (with_reducible refine (affidavitref01_Has.calls kj24 a0 _ _ l1 false _ ?side1 ?side2 A39.out).mono ?_); (case side1 => repeat (first | exact (Kd.C_below HR1.out HB.out) | (with_reducible refine Kd.C_alloc ?_ _) | (with_reducible refine Kd.C_drewN ?_ _) | (with_reducible refine Kd.C_drew ?_))); (case side2 => exact HC1.out); rintro e w' ⟨rfl, ⟨nd, rfl⟩⟩))
                            go_meet
                            case rel => exact ⟨_, (true), (by first | rfl | (simp; done) | (simp [*]; done)), H', ⟨by have := HJ6.out; have := HJ15.out; have := HJ24.out; first | omega | exact Nat.le_refl _⟩, ⟨by (with_reducible repeat (first | apply Kd.R_alloc | apply Kd.R_drewN | apply Kd.R_drew)); exact HO_10.out⟩, ⟨by repeat (first | (with_reducible first | exact HB.out | apply below_alloc | apply pw_below_drewN | apply below_drew1) | exact HB.out)⟩⟩
                        · replace c38 := Bool.eq_false_iff.mpr c38
                          subst c38
                          have H1 : (affidavitlaw04_SeriesRight.j3 kj24 a0 l1 l2 a3 t260 t261 true) = some r := by rw [if_neg (show ¬ (false = true) by decide)] at H; exact H
                          clear H
                          have H := H1
                          clear H1
                          have H' := Aside0.mk H
                          clear H
                          go_wp2
                          go_meet
                          case rel => exact ⟨_, (true), (by first | rfl | (simp; done) | (simp [*]; done)), H', ⟨by have := HJ6.out; have := HJ15.out; have := HJ24.out; first | omega | exact Nat.le_refl _⟩, ⟨by (with_reducible repeat (first | apply Kd.R_alloc | apply Kd.R_drewN | apply Kd.R_drew)); exact HO_10.out⟩, ⟨by repeat (first | (with_reducible first | exact HB.out | apply below_alloc | apply pw_below_drewN | apply below_drew1) | exact HB.out)⟩⟩
                      case rest =>
                        clear HC37
                        try clear c1
                        try clear c2
                        try clear p2
                        try clear c3
                        try clear c4
                        try clear c6
                        try clear c9
                        try clear c9b0
                        try clear c9b1
                        try clear c10
                        try clear c10b0
                        try clear c10b1
                        try clear c11
                        try clear c11b0
                        try clear c12
                        try clear c14
                        try clear c15
                        try clear c16
                        try clear c17
                        try clear c18
                        try clear c20
                        try clear c20b0
                        try clear c20b1
                        try clear c20b2
                        try clear c24
                        try clear c26
                        try clear c27
                        try clear c27b0
                        try clear c27b1
                        try clear c33
                        try clear c33b0
                        try clear c33b1
                        try clear c34
                        try clear c34b0
                        try clear c34b1
                        try clear c36
                        try clear c38
                        try clear c40
                        try clear c41
                        try clear c41b0
                        try clear p2
                        obtain ⟨kq, x106_36, rfl, HA, HJ36, HO_10, HB⟩ := hcut
                        cases kq with
                        | zero => exact absurd HA.out (by simp [affidavitlaw04_SeriesRight.j3])
                        | succ kj36 =>
                          have H := HA.out
                          clear HA
                          simp only [affidavitlaw04_SeriesRight.j3] at H
                          by_cases c42 : x106_36 = true
                          · subst c42
                            have H1 : (if t261 = 1 then (some ((t260.length : Int) == 0)) else (none)) = some r := by rw [if_pos rfl] at H; exact H
                            clear H
                            have H := H1
                            clear H1
                            by_cases c43 : t261 = 1
                            · rw [if_pos c43] at H
                              have c43b0 : (t261 == 1) = true := beq_iff_eq.mpr c43
                              have c43b1 : (t261 != 1) = false := bne_eq_false_iff_eq.mpr c43
                              clear c43
                              obtain rfl := Option.some.inj H
                              obtain ⟨Ao44, co44, eo44⟩ := Kd.R_slice HO_10.out
                              subst eo44
                              go_wp2
                              go_ret
                              exact ⟨by first | rfl | (simp [errW_none, errW_some] <;> rfl) | (simp [*, errW_none, errW_some] <;> rfl), by repeat (first | (with_reducible first | exact HB.out | apply below_alloc | apply pw_below_drewN | apply below_drew1) | exact HB.out)⟩
                            · rw [if_neg c43] at H
                              exact absurd H (by simp)
                          · replace c42 := Bool.eq_false_iff.mpr c42
                            subst c42
                            have H1 : (if t261 = 0 then (if (t260.length : Int) = (wrap64 ((l1.length : Int) + a3)) then (if 0 ≤ (l1.length : Int) then (if (l1.length : Int) ≤ (t260.length : Int) then ((affidavitref01_Same.f kj36 (t260.take ((l1.length : Int) : Int).toNat) l1).bind fun t280 => (if t280 = true then ((affidavitref01_Has.f kj36 a0 t260).bind fun t281 => (affidavitlaw04_SeriesRight.j4 kj36 a0 l1 l2 t260 (!t281))) else (none))) else (none)) else (none)) else (none)) else (none)) = some r := by rw [if_neg (show ¬ (false = true) by decide)] at H; exact H
                            clear H
                            have H := H1
                            clear H1
                            have HC45 := Aside0.mk H
                            clear H
                            go_upto_region 14 with (fail)
                            go_cut [139] (fun v139 wc => ∃ (kq : Nat) (x139_44 : Bool), v139 = .bool x139_44 ∧ Aside0 (affidavitlaw04_SeriesRight.j4 kq a0 l1 l2 t260 x139_44 = some r) ∧ Aside0 (kq ≤ kj36) ∧ Aside0 (Kd.R (Kd.int .u64) 22 wc w.heap.size (fun _ => True) v262 t260) ∧ Aside0 (Below w.heap.size w wc))
                            case first =>
                              have H := HC45.out
                              clear HC45
                              by_cases c46 : t261 = 0
                              · rw [if_pos c46] at H
                                have c46b0 : (t261 == 0) = true := beq_iff_eq.mpr c46
                                have c46b1 : (t261 != 0) = false := bne_eq_false_iff_eq.mpr c46
                                clear c46
                                (first | rw [c46b0] | (simp only [i64_w, i32_w]; rw [c46b0]) | skip)
                                by_cases c47 : (t260.length : Int) = (wrap64 ((l1.length : Int) + a3))
                                · rw [if_pos c47] at H
                                  have c47b0 : ((t260.length : Int) == (wrap64 ((l1.length : Int) + a3))) = true := beq_iff_eq.mpr c47
                                  have c47b1 : ((t260.length : Int) != (wrap64 ((l1.length : Int) + a3))) = false := bne_eq_false_iff_eq.mpr c47
                                  clear c47
                                  by_cases c48 : 0 ≤ (l1.length : Int)
                                  · rw [if_pos c48] at H
                                    have c48b0 := eq_true c48
                                    have c48b1 : decide (0 ≤ (l1.length : Int)) = true := decide_eq_true c48
                                    clear c48
                                    by_cases c49 : (l1.length : Int) ≤ (t260.length : Int)
                                    · rw [if_pos c49] at H
                                      have c49b0 := eq_true c49
                                      have c49b1 : decide ((l1.length : Int) ≤ (t260.length : Int)) = true := decide_eq_true c49
                                      clear c49
                                      obtain ⟨y276, hy276⟩ : ∃ y_ : List Int, y_ = (t260.take ((l1.length : Int) : Int).toNat) := ⟨_, rfl⟩
                                      replace H : ((affidavitref01_Same.f kj36 y276 l1).bind fun t280 => (if t280 = true then ((affidavitref01_Has.f kj36 a0 t260).bind fun t281 => (affidavitlaw04_SeriesRight.j4 kj36 a0 l1 l2 t260 (!t281))) else (none))) = some r := by first | (rw [hy276]; with_reducible exact H) | (have H2_ := (Option.bind_some _ _).symm.trans H; rw [hy276]; with_reducible exact H2_) | (have H2_ := (Option.bind_some _ _).symm.trans H; with_reducible exact H2_) | with_reducible exact H | (rw [hy276]; exact H) | exact H
                                      have Ny276 := Aside0.mk hy276
                                      clear hy276
                                      replace H := Option.bind_eq_some_iff.mp H
                                      obtain ⟨t280, A500, H⟩ := H
                                      replace H : (if t280 = true then ((affidavitref01_Has.f kj36 a0 t260).bind fun t281 => (affidavitlaw04_SeriesRight.j4 kj36 a0 l1 l2 t260 (!t281))) else (none)) = some r := H
                                      have A50 := Aside0.mk A500
                                      clear A500
                                      by_cases c51 : t280 = true
                                      · subst c51
                                        have H1 : ((affidavitref01_Has.f kj36 a0 t260).bind fun t281 => (affidavitlaw04_SeriesRight.j4 kj36 a0 l1 l2 t260 (!t281))) = some r := by rw [if_pos rfl] at H; exact H
                                        clear H
                                        have H := H1
                                        clear H1
                                        replace H := Option.bind_eq_some_iff.mp H
                                        obtain ⟨t281, A520, H⟩ := H
                                        replace H : (affidavitlaw04_SeriesRight.j4 kj36 a0 l1 l2 t260 (!t281)) = some r := H
                                        have A52 := Aside0.mk A520
                                        clear A520
                                        have H' := Aside0.mk H
                                        clear H
                                        obtain ⟨Ao53, co53, eo53⟩ := Kd.R_slice HO_10.out
                                        subst eo53
                                        have q54 : ((l1.length : Int) : Int) ≤ ((t260.length : Int) : Int) := of_decide_eq_true (by first | (with_reducible assumption) | assumption)
                                        obtain ⟨i054, hi054, _, hsz54, _⟩ := info_parts info22
                                        have hroom54 : t260.length ≤ co53 := (Kd.R_reads' HO_10.out).2.1
                                        have hC54 : Kd.C (Kd.int .u64) _ Ao53 t260.length t260 := (Kd.R_reads' HO_10.out).2.2
                                        have hcut54 := cut_to (P := Try.prog) 23 22 .i64 Try.underlying23 hi054 Ao53 t260.length co53 (l1.length : Int) (of_decide_eq_true (by first | (with_reducible assumption) | assumption)) q54 hroom54
                                        have hr54 := Kd.C_take (m := ((l1.length : Int) : Int).toNat) hC54 (by omega)
                                        have hy54 : y276.length = ((l1.length : Int) : Int).toNat := (by rw [Ny276.out, List.length_take]; omega)
                                        rw [← Ny276.out] at hr54
                                        rw [← hy54] at hcut54
                                        have HR279 := Aside0.mk hr54
                                        have HC279 := Aside0.mk (show y276.length ≤ co53 from by omega)
                                        clear hr54 hC54 hroom54 hi054 hsz54
                                        have KY54 := Aside0.mk hy54
                                        clear hy54
                                        have KL54 := Aside0.mk (show ((l1.length : Int) : Int).toNat ≤ t260.length from by omega)
                                        replace q54 := eq_true q54
                                        go_wp2_with (first | (go_at_call 21; (with_reducible refine (affidavitref01_Same.calls kj36 _ _ y276 _ _ l1 true _ ?side1 ?side2 ?side3 ?side4 A50.out).mono ?_); (case side1 => repeat (first | exact (by repeat (first | (with_reducible exact HR279.out) | (with_reducible refine Kd.C_alloc ?_ _) | (with_reducible refine Kd.C_drewN ?_ _) | (with_reducible refine Kd.C_drew ?_) | exact HR279.out)) | (with_reducible refine Kd.C_alloc ?_ _) | (with_reducible refine Kd.C_drewN ?_ _) | (with_reducible refine Kd.C_drew ?_))); (case side2 => exact HC279.out); (case side3 => repeat (first | exact (Kd.C_below HR1.out HB.out) | (with_reducible refine Kd.C_alloc ?_ _) | (with_reducible refine Kd.C_drewN ?_ _) | (with_reducible refine Kd.C_drew ?_))); (case side4 => exact HC1.out); rintro e w' ⟨rfl, ⟨nd, rfl⟩⟩) | (go_at_call 23; (with_reducible refine (affidavitref01_Has.calls kj36 a0 _ _ t260 t281 _ ?side1 ?side2 A52.out).mono ?_); (case side1 => repeat (first | exact (Kd.R_reads' HO_10.out).2.2 | (with_reducible refine Kd.C_alloc ?_ _) | (with_reducible refine Kd.C_drewN ?_ _) | (with_reducible refine Kd.C_drew ?_))); (case side2 => exact (Kd.R_reads' HO_10.out).2.1); rintro e w' ⟨rfl, ⟨nd, rfl⟩⟩))
                                        go_meet
                                        case rel => exact ⟨_, (!t281), (by first | rfl | (simp; done) | (simp [*]; done)), H', ⟨by have := HJ6.out; have := HJ15.out; have := HJ24.out; have := HJ36.out; first | omega | exact Nat.le_refl _⟩, ⟨by (with_reducible repeat (first | apply Kd.R_alloc | apply Kd.R_drewN | apply Kd.R_drew)); exact HO_10.out⟩, ⟨by repeat (first | (with_reducible first | exact HB.out | apply below_alloc | apply pw_below_drewN | apply below_drew1) | exact HB.out)⟩⟩
                                      · replace c51 := Bool.eq_false_iff.mpr c51
                                        subst c51
                                        have H1 : (none) = some r := by rw [if_neg (show ¬ (false = true) by decide)] at H; exact H
                                        clear H
                                        have H := H1
                                        clear H1
                                        exact absurd H (by simp)
                                    · rw [if_neg c49] at H
                                      exact absurd H (by simp)
                                  · rw [if_neg c48] at H
                                    exact absurd H (by simp)
                                · rw [if_neg c47] at H
                                  exact absurd H (by simp)
                              · rw [if_neg c46] at H
                                exact absurd H (by simp)
                            case rest =>
                              clear HC45
                              try clear c1
                              try clear c2
                              try clear p2
                              try clear c3
                              try clear c4
                              try clear c5
                              try clear q5
                              try clear c6
                              try clear p6
                              try clear c9
                              try clear c9b0
                              try clear c9b1
                              try clear c10
                              try clear c10b0
                              try clear c10b1
                              try clear c11
                              try clear c11b0
                              try clear c12
                              try clear c14
                              try clear c15
                              try clear c16
                              try clear c17
                              try clear c18
                              try clear c20
                              try clear c20b0
                              try clear c20b1
                              try clear c20b2
                              try clear c24
                              try clear c26
                              try clear c27
                              try clear c27b0
                              try clear c27b1
                              try clear c33
                              try clear c33b0
                              try clear c33b1
                              try clear c34
                              try clear c34b0
                              try clear c34b1
                              try clear c36
                              try clear c38
                              try clear c40
                              try clear c41
                              try clear c41b0
                              try clear c42
                              try clear c43
                              try clear c43b0
                              try clear c43b1
                              try clear c46
                              try clear c46b0
                              try clear c46b1
                              try clear c47
                              try clear c47b0
                              try clear c47b1
                              try clear c48
                              try clear c48b0
                              try clear c48b1
                              try clear c49
                              try clear c49b0
                              try clear c49b1
                              try clear c51
                              try clear q54
                              try clear p2
                              try clear q54
                              obtain ⟨kq, x139_44, rfl, HA, HJ44, HO_10, HB⟩ := hcut
                              cases kq with
                              | zero => exact absurd HA.out (by simp [affidavitlaw04_SeriesRight.j4])
                              | succ kj44 =>
                                have H := HA.out
                                clear HA
                                simp only [affidavitlaw04_SeriesRight.j4] at H
                                by_cases c55 : x139_44 = true
                                · subst c55
                                  have H1 : (none) = some r := by rw [if_pos rfl] at H; exact H
                                  clear H
                                  have H := H1
                                  clear H1
                                  exact absurd H (by simp)
                                · replace c55 := Bool.eq_false_iff.mpr c55
                                  subst c55
                                  have H1 : (affidavitlaw04_SeriesRight.l0 kj44 a0 l2 t260 (l1.length : Int)) = some r := by rw [if_neg (show ¬ (false = true) by decide)] at H; exact H
                                  clear H
                                  have H := H1
                                  clear H1
                                  have H' := Aside0.mk H
                                  clear H
                                  go_wp2
                                  go_loopg [14] kj44 (fun kq v14 w' => ∃ (x14_6 : Int), v14 = .int .i64 x14_6 ∧ Aside0 (affidavitlaw04_SeriesRight.l0 kq a0 l2 t260 x14_6 = some r) ∧ Aside0 (kq ≤ kj44) ∧ Aside0 (Kd.R (Kd.int .u64) 22 w' w.heap.size (fun _ => True) v262 t260) ∧ Aside0 (Below w.heap.size w w'))
                                  case atStart => exact ⟨((l1.length : Int)), (by first | rfl | (simp; done) | (simp [*]; done)), H', ⟨Nat.le_refl _⟩, ⟨by (with_reducible repeat (first | apply Kd.R_alloc | apply Kd.R_drewN | apply Kd.R_drew)); exact HO_10.out⟩, ⟨by repeat (first | (with_reducible first | exact HB.out | apply below_alloc | apply pw_below_drewN | apply below_drew1) | exact HB.out)⟩⟩
                                  case round =>
                                    clear H'
                                    try clear c1
                                    try clear c2
                                    try clear p2
                                    try clear c3
                                    try clear c4
                                    try clear c5
                                    try clear q5
                                    try clear c6
                                    try clear p6
                                    try clear c9
                                    try clear c9b0
                                    try clear c9b1
                                    try clear c10
                                    try clear c10b0
                                    try clear c10b1
                                    try clear c11
                                    try clear c11b0
                                    try clear c12
                                    try clear c14
                                    try clear c15
                                    try clear c16
                                    try clear c17
                                    try clear c18
                                    try clear c20
                                    try clear c20b0
                                    try clear c20b1
                                    try clear c20b2
                                    try clear c24
                                    try clear c26
                                    try clear c27
                                    try clear c27b0
                                    try clear c27b1
                                    try clear c33
                                    try clear c33b0
                                    try clear c33b1
                                    try clear c34
                                    try clear c34b0
                                    try clear c34b1
                                    try clear c36
                                    try clear c38
                                    try clear c40
                                    try clear c41
                                    try clear c41b0
                                    try clear c42
                                    try clear c43
                                    try clear c43b0
                                    try clear c43b1
                                    try clear c46
                                    try clear c46b0
                                    try clear c46b1
                                    try clear c47
                                    try clear c47b0
                                    try clear c47b1
                                    try clear c48
                                    try clear c48b0
                                    try clear c48b1
                                    try clear c49
                                    try clear c49b0
                                    try clear c49b1
                                    try clear c51
                                    try clear q54
                                    try clear c55
                                    try clear p2
                                    try clear p6
                                    try clear q5
                                    try clear q54
                                    obtain ⟨x14_6, rfl, HA, HK6, HO_10, HB⟩ := hrel
                                    cases gk with
                                    | zero => exact absurd HA.out (by simp [affidavitlaw04_SeriesRight.l0])
                                    | succ k6 =>
                                      have H := HA.out
                                      clear HA
                                      simp only [affidavitlaw04_SeriesRight.l0] at H
                                      by_cases c56 : x14_6 < (t260.length : Int)
                                      · rw [if_pos c56] at H
                                        have c56b0 : decide (x14_6 < (t260.length : Int)) = true := decide_eq_true c56
                                        clear c56
                                        replace H := Option.bind_eq_some_iff.mp H
                                        obtain ⟨t282, A570, H⟩ := H
                                        replace H : (if t282 = 0 then (affidavitlaw04_SeriesRight.l0 k6 a0 l2 t260 (wrap64 (x14_6 + 1))) else (none)) = some r := H
                                        have A57 := Aside0.mk A570
                                        clear A570
                                        by_cases c58 : t282 = 0
                                        · rw [if_pos c58] at H
                                          have c58b0 : (t282 == 0) = true := beq_iff_eq.mpr c58
                                          have c58b1 : (t282 != 0) = false := bne_eq_false_iff_eq.mpr c58
                                          clear c58
                                          have H' := Aside0.mk H
                                          clear H
                                          obtain ⟨Ao59, co59, eo59⟩ := Kd.R_slice HO_10.out
                                          subst eo59
                                          go_wp2_with (first | ((with_reducible refine gate_callee (f := 24) rfl ?_); refine goesL_ (some 152) rfl rfl Try.func24 (by kernel_rfl) rfl #[.int .u64 a0, .slice Ao59 t260.length co59, .slice A2 l2.length c2, .int .i64 x14_6] rfl (by (try simp only [List.map_toArray, List.map_cons, List.map_nil]); first | done | rfl | (simp only [List.length_drop, List.length_take]; rfl)) ?_; (with_reducible refine (affidavitref04_Sum.calls k6 a0 _ _ t260 _ _ l2 x14_6 t282 _ ?side1 ?side2 ?side3 ?side4 A57.out).mono ?_); (case side1 => repeat (first | exact (Kd.R_reads' HO_10.out).2.2 | (with_reducible refine Kd.C_alloc ?_ _) | (with_reducible refine Kd.C_drewN ?_ _) | (with_reducible refine Kd.C_drew ?_))); (case side2 => exact (Kd.R_reads' HO_10.out).2.1); (case side3 => repeat (first | exact (Kd.C_below HR2.out HB.out) | (with_reducible refine Kd.C_alloc ?_ _) | (with_reducible refine Kd.C_drewN ?_ _) | (with_reducible refine Kd.C_drew ?_))); (case side4 => exact HC2.out); rintro e w' ⟨rfl, ⟨nd, rfl⟩⟩; refine ⟨_, rfl, ?_⟩))
                                          go_roundg k6
                                          case measure => have := HJ6.out; have := HJ15.out; have := HJ24.out; have := HJ36.out; have := HJ44.out; have := HK6.out; omega
                                          case rel => exact ⟨(wrap64 (x14_6 + 1)), (by first | rfl | (simp; done) | (simp [*]; done)), H', ⟨by have := HJ6.out; have := HJ15.out; have := HJ24.out; have := HJ36.out; have := HJ44.out; have := HK6.out; omega⟩, ⟨by (with_reducible repeat (first | apply Kd.R_alloc | apply Kd.R_drewN | apply Kd.R_drew)); exact HO_10.out⟩, ⟨by repeat (first | (with_reducible first | exact HB.out | apply below_alloc | apply pw_below_drewN | apply below_drew1) | exact HB.out)⟩⟩
                                        · rw [if_neg c58] at H
                                          exact absurd H (by simp)
                                      · rw [if_neg c56] at H
                                        have c56b0 : decide (x14_6 < (t260.length : Int)) = false := decide_eq_false c56
                                        clear c56
                                        obtain rfl := Option.some.inj H
                                        obtain ⟨Ao60, co60, eo60⟩ := Kd.R_slice HO_10.out
                                        subst eo60
                                        go_wp2
                                        go_ret
                                        exact ⟨by first | rfl | (simp [errW_none, errW_some] <;> rfl) | (simp [*, errW_none, errW_some] <;> rfl), by repeat (first | (with_reducible first | exact HB.out | apply below_alloc | apply pw_below_drewN | apply below_drew1) | exact HB.out)⟩
  · replace c6 := Bool.eq_false_iff.mpr c6
    subst c6
    have H1 : (none) = some r := by rw [if_neg (show ¬ (false = true) by decide)] at H; exact H
    clear H
    have H := H1
    clear H1
    exact absurd H (by simp)

/-- THE ONE PURE STATEMENT of affidavitlaw04_SeriesRight: yours. -/
def affidavitlaw04_SeriesRight.Pure : Prop := ∀ (a0 : Int) (l1 : List Int) (l2 : List Int) (a3 : Int), (Lit.int .u64 a0).wf = true → l1.length ≤ maxLen → l1.length * 8 ≤ 140737488351232 → (∀ x ∈ l1, (Lit.int .u64 x).wf = true) → l2.length ≤ maxLen → l2.length * 8 ≤ 140737488351232 → (∀ x ∈ l2, (Lit.int .u64 x).wf = true) → (Lit.int .i64 a3).wf = true → ∃ k, affidavitlaw04_SeriesRight.f k a0 l1 l2 a3 = some true
theorem affidavitlaw04_SeriesRight.walk (P : affidavitlaw04_SeriesRight.Pure) (a0 : Int) (a1 : Option Addr) (len1 cap1 : Nat) (z1 : List Int) (a2 : Option Addr) (len2 cap2 : Nat) (z2 : List Int) (a3 : Int) (w : World) (w0 : (Lit.int .u64 a0).wf = true) (w1 : (a1 = none ∧ len1 = 0 ∧ cap1 = 0 ∧ z1 = []) ∨ ∃ x, a1 = some x ∧ len1 ≤ cap1 ∧ cap1 ≤ maxLen ∧ z1.length = cap1 ∧ (∀ i, i < z1.length → w.cell? (x.add i) = some (.int .u64 (z1.getD i 0))) ∧ ∀ n ∈ z1, (Lit.int .u64 n).wf = true) (y1 : len1 * 8 ≤ 140737488351232) (w2 : (a2 = none ∧ len2 = 0 ∧ cap2 = 0 ∧ z2 = []) ∨ ∃ x, a2 = some x ∧ len2 ≤ cap2 ∧ cap2 ≤ maxLen ∧ z2.length = cap2 ∧ (∀ i, i < z2.length → w.cell? (x.add i) = some (.int .u64 (z2.getD i 0))) ∧ ∀ n ∈ z2, (Lit.int .u64 n).wf = true) (y2 : len2 * 8 ≤ 140737488351232) (w3 : (Lit.int .i64 a3).wf = true) :
    Calls Try.prog 3 #[.int .u64 a0, .slice a1 len1 cap1, .slice a2 len2 cap2, .int .i64 a3] w fun e w' => e = .returned (.bool true) ∧ Below w.heap.size w w' := by
  obtain ⟨l1, rfl, hr1, hm1, hw1, hc1⟩ := ReadsInt.ofRowC w1
  obtain ⟨l2, rfl, hr2, hm2, hw2, hc2⟩ := ReadsInt.ofRowC w2
  obtain ⟨k, h⟩ := P a0 l1 l2 a3 w0 hm1 y1 hw1 hm2 y2 hw2 w3
  refine (affidavitlaw04_SeriesRight.calls k a0 _ _ l1 _ _ l2 a3 true w (Kd.C_of_reads (d := (0 : Int)) (h1 := fun _ => rfl) hr1) hc1 (Kd.C_of_reads (d := (0 : Int)) (h1 := fun _ => rfl) hr2) hc2 h).mono ?_
  rintro e w' ⟨rfl, hd⟩
  exact ⟨rfl, hd⟩

end Go.Proofs.Ytffcjgelcdilcaa.PSer

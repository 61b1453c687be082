/- Contracts of functions of the given program: printed out of the translation by a program of this session, with texts by hand for what the print does not take. -/
import Derived.Test.YtffcjgelcdilcaaPSerx0
import Derived.Test.YtffcjgelcdilcaaPSerx7
namespace Go.Proofs.Ytffcjgelcdilcaa.PSer
open Go.RowKit Go.Proofs.YtffcjgelcdilcaaW.PrintWords Go.Proofs.YtffcjgelcdilcaaW.PrintLast Go.Proofs.YtffcjgelcdilcaaW.PrintMore
attribute [local go_sem] max2_int min2_int max_two min_two max_three min_three max_four min_four   -- for this text's walks alone
set_option linter.unusedVariables false
set_option linter.unusedSimpArgs false

/-! ### affidavitref02_Is: function 52 -/
def affidavitref02_Is.l0 : Nat → Int → Int → Option (Bool)
  | 0, _, _ => none
  | k + 1, x0, x3 => if (IntKind.u64.wrap (x3 * x3)) ≤ x0 then (if x3 = 0 then (none) else (if (Int.tmod x0 x3) = 0 then (some false) else (affidavitref02_Is.l0 k x0 (IntKind.u64.wrap (x3 + 1))))) else (some true)
def affidavitref02_Is.f (k : Nat) (a0 : Int) : Option (Bool) := if a0 < 2 then (some false) else (affidavitref02_Is.l0 k a0 2)
theorem affidavitref02_Is.mono_l : ∀ k, (∀ y0 y1, LeO (affidavitref02_Is.l0 k y0 y1) (affidavitref02_Is.l0 (k + 1) y0 y1))
  | 0 => fun _ _ r h => by simp [affidavitref02_Is.l0] at h
  | k + 1 => by
    have ih0 := affidavitref02_Is.mono_l k
    · intro y0 y1
      unfold affidavitref02_Is.l0
      repeat' first
      | (with_reducible exact ih0 _ _)
      | (with_reducible exact LeO.refl _)
      | (with_reducible exact LeO.none _)
      | (with_reducible refine LeO.ite ?_ ?_)
      | (with_reducible refine LeO.bind ?_ (fun _ => ?_))
      | exact ih0 _ _
      | exact LeO.none _
      | refine LeO.ite ?_ ?_
      | refine LeO.bind ?_ (fun _ => ?_)
theorem affidavitref02_Is.mono : ∀ a0 k, LeO (affidavitref02_Is.f k a0) (affidavitref02_Is.f (k + 1) a0) := by
  intro a0 k
  have ih0 := affidavitref02_Is.mono_l k
  unfold affidavitref02_Is.f
  repeat' first
      | (with_reducible exact ih0 _ _)
      | (with_reducible exact LeO.refl _)
      | (with_reducible exact LeO.none _)
      | (with_reducible refine LeO.ite ?_ ?_)
      | (with_reducible refine LeO.bind ?_ (fun _ => ?_))
      | exact ih0 _ _
      | exact LeO.none _
      | refine LeO.ite ?_ ?_
      | refine LeO.bind ?_ (fun _ => ?_)
set_option maxHeartbeats 8000000 in
set_option maxRecDepth 100000 in
theorem affidavitref02_Is.calls (k : Nat) (a0 : Int) (r : Bool) (w : World) (h : affidavitref02_Is.f k a0 = some r) :
    Calls Try.prog 52 #[.int .u64 a0] w fun e w' => e = .returned (.bool r) ∧ Drawn0 w w' := by
  have H : (if a0 < 2 then (some false) else (affidavitref02_Is.l0 k a0 2)) = some r := h
  clear h
  by_cases c2 : a0 < 2
  · rw [if_pos c2] at H
    have c2b0 : decide (a0 < 2) = true := decide_eq_true c2
    clear c2
    obtain rfl := Option.some.inj H
    go_enter Try.func52, Try.ntmps52
    go_wp2
    go_ret
    exact ⟨by first | rfl | (simp; done) | (simp [*]; done), by repeat (first | exact Drawn0.refl _ | apply Drawn0.step)⟩
  · rw [if_neg c2] at H
    have c2b0 : decide (a0 < 2) = false := decide_eq_false c2
    clear c2
    have H' := Aside0.mk H
    clear H
    go_enter Try.func52, Try.ntmps52
    go_wp2
    go_loopg [3] k (fun kq v3 w' => ∃ (x3_1 : Int), v3 = .int .u64 x3_1 ∧ Aside0 (affidavitref02_Is.l0 kq a0 x3_1 = some r) ∧ Aside0 (kq ≤ k) ∧ Drawn0 w w')
    case atStart => exact ⟨(2), (by first | rfl | (simp; done) | (simp [*]; done)), H', ⟨Nat.le_refl _⟩, by repeat (first | exact Drawn0.refl _ | apply Drawn0.step)⟩
    case round =>
      clear H'
      try clear c2
      try clear c2b0
      try clear p2
      obtain ⟨x3_1, rfl, HA, HK1, ⟨m1, rfl⟩⟩ := hrel
      cases gk with
      | zero => exact absurd HA.out (by simp [affidavitref02_Is.l0])
      | succ k1 =>
        have H := HA.out
        clear HA
        simp only [affidavitref02_Is.l0] at H
        by_cases c3 : (IntKind.u64.wrap (x3_1 * x3_1)) ≤ a0
        · rw [if_pos c3] at H
          have c3b0 : decide ((IntKind.u64.wrap (x3_1 * x3_1)) ≤ a0) = true := decide_eq_true c3
          clear c3
          by_cases c4 : x3_1 = 0
          · rw [if_pos c4] at H
            exact absurd H (by simp)
          · rw [if_neg c4] at H
            have c4b0 : (x3_1 == 0) = false := beq_eq_false_iff_ne.mpr c4
            have c4b1 : (x3_1 != 0) = true := bne_iff_ne.mpr c4
            by_cases c5 : (Int.tmod a0 x3_1) = 0
            · rw [if_pos c5] at H
              have c5b0 : ((Int.tmod a0 x3_1) == 0) = true := beq_iff_eq.mpr c5
              have c5b1 : ((Int.tmod a0 x3_1) != 0) = false := bne_eq_false_iff_eq.mpr c5
              clear c5
              obtain rfl := Option.some.inj H
              go_wp2
              go_ret
              exact ⟨by first | rfl | (simp; done) | (simp [*]; done), by repeat (first | exact Drawn0.refl _ | apply Drawn0.step)⟩
            · rw [if_neg c5] at H
              have c5b0 : ((Int.tmod a0 x3_1) == 0) = false := beq_eq_false_iff_ne.mpr c5
              have c5b1 : ((Int.tmod a0 x3_1) != 0) = true := bne_iff_ne.mpr c5
              have H' := Aside0.mk H
              clear H
              go_wp2
              go_roundg k1
              case measure => have := HK1.out; omega
              case rel => exact ⟨(IntKind.u64.wrap (x3_1 + 1)), (by first | rfl | (simp; done) | (simp [*]; done)), H', ⟨by have := HK1.out; omega⟩, by repeat (first | exact Drawn0.refl _ | apply Drawn0.step)⟩
        · rw [if_neg c3] at H
          have c3b0 : decide ((IntKind.u64.wrap (x3_1 * x3_1)) ≤ a0) = false := decide_eq_false c3
          clear c3
          obtain rfl := Option.some.inj H
          go_wp2
          go_ret
          exact ⟨by first | rfl | (simp; done) | (simp [*]; done), by repeat (first | exact Drawn0.refl _ | apply Drawn0.step)⟩

/-! ### affidavitlaw04_prime: function 26 -/
def affidavitlaw04_prime.f (k : Nat) (a0 : Int) : Option (Bool) := if a0 = 2147483647 then (some true) else (if a0 = 2305843009213693951 then (some true) else (if a0 < 1048576 then ((affidavitref02_Is.f k a0).bind fun t254 => (some t254)) else (some false)))
theorem affidavitlaw04_prime.mono : ∀ a0 k, LeO (affidavitlaw04_prime.f k a0) (affidavitlaw04_prime.f (k + 1) a0) := by
  intro a0 k
  unfold affidavitlaw04_prime.f
  repeat' first
      | (with_reducible exact affidavitref02_Is.mono _ _)
      | (with_reducible exact LeO.refl _)
      | (with_reducible exact LeO.none _)
      | (with_reducible refine LeO.ite ?_ ?_)
      | (with_reducible refine LeO.bind ?_ (fun _ => ?_))
      | exact affidavitref02_Is.mono _ _
      | exact LeO.none _
      | refine LeO.ite ?_ ?_
      | refine LeO.bind ?_ (fun _ => ?_)
set_option maxHeartbeats 8000000 in
set_option maxRecDepth 100000 in
theorem affidavitlaw04_prime.calls (k : Nat) (a0 : Int) (r : Bool) (w : World) (h : affidavitlaw04_prime.f k a0 = some r) :
    Calls Try.prog 26 #[.int .u64 a0] w fun e w' => e = .returned (.bool r) ∧ Drawn0 w w' := by
  have H : (if a0 = 2147483647 then (some true) else (if a0 = 2305843009213693951 then (some true) else (if a0 < 1048576 then ((affidavitref02_Is.f k a0).bind fun t254 => (some t254)) else (some false)))) = some r := h
  clear h
  by_cases c2 : a0 = 2147483647
  · rw [if_pos c2] at H
    have c2b0 : (a0 == 2147483647) = true := beq_iff_eq.mpr c2
    have c2b1 : (a0 != 2147483647) = false := bne_eq_false_iff_eq.mpr c2
    clear c2
    obtain rfl := Option.some.inj H
    go_enter Try.func26, Try.ntmps26
    go_wp2
    go_ret
    exact ⟨by first | rfl | (simp; done) | (simp [*]; done), by repeat (first | exact Drawn0.refl _ | apply Drawn0.step)⟩
  · rw [if_neg c2] at H
    have c2b0 : (a0 == 2147483647) = false := beq_eq_false_iff_ne.mpr c2
    have c2b1 : (a0 != 2147483647) = true := bne_iff_ne.mpr c2
    by_cases c3 : a0 = 2305843009213693951
    · rw [if_pos c3] at H
      have c3b0 : (a0 == 2305843009213693951) = true := beq_iff_eq.mpr c3
      have c3b1 : (a0 != 2305843009213693951) = false := bne_eq_false_iff_eq.mpr c3
      clear c3
      obtain rfl := Option.some.inj H
      go_enter Try.func26, Try.ntmps26
      go_wp2
      go_ret
      exact ⟨by first | rfl | (simp; done) | (simp [*]; done), by repeat (first | exact Drawn0.refl _ | apply Drawn0.step)⟩
    · rw [if_neg c3] at H
      have c3b0 : (a0 == 2305843009213693951) = false := beq_eq_false_iff_ne.mpr c3
      have c3b1 : (a0 != 2305843009213693951) = true := bne_iff_ne.mpr c3
      by_cases c4 : a0 < 1048576
      · rw [if_pos c4] at H
        have c4b0 : decide (a0 < 1048576) = true := decide_eq_true c4
        clear c4
        replace H := Option.bind_eq_some_iff.mp H
        obtain ⟨t254, A50, H⟩ := H
        replace H : (some t254) = some r := H
        have A5 := Aside0.mk A50
        clear A50
        obtain rfl := Option.some.inj H
        go_enter Try.func26, Try.ntmps26
        go_wp2_with (first | (go_at_call 52; (with_reducible refine (affidavitref02_Is.calls k a0 t254 _ A5.out).mono ?_); rintro e w' ⟨rfl, ⟨nd, rfl⟩⟩))
        go_ret
        exact ⟨by first | rfl | (simp; done) | (simp [*]; done), by repeat (first | exact Drawn0.refl _ | apply Drawn0.step)⟩
      · rw [if_neg c4] at H
        have c4b0 : decide (a0 < 1048576) = false := decide_eq_false c4
        clear c4
        obtain rfl := Option.some.inj H
        go_enter Try.func26, Try.ntmps26
        go_wp2
        go_ret
        exact ⟨by first | rfl | (simp; done) | (simp [*]; done), by repeat (first | exact Drawn0.refl _ | apply Drawn0.step)⟩

/-! ### affidavitref01_Sub: function 73 -/
def affidavitref01_Sub.f (a0 : Int) (a1 : Int) (a2 : Int) : Option (Int) := if a0 = 0 then (none) else (some (Int.tmod (IntKind.u64.wrap ((IntKind.u64.wrap (a1 + a0)) - a2)) a0))
set_option maxHeartbeats 8000000 in
set_option maxRecDepth 100000 in
theorem affidavitref01_Sub.calls (a0 : Int) (a1 : Int) (a2 : Int) (r : Int) (w : World) (h : affidavitref01_Sub.f a0 a1 a2 = some r) :
    Calls Try.prog 73 #[.int .u64 a0, .int .u64 a1, .int .u64 a2] w fun e w' => e = .returned (.int .u64 r) ∧ Drawn0 w w' := by
  have H : (if a0 = 0 then (none) else (some (Int.tmod (IntKind.u64.wrap ((IntKind.u64.wrap (a1 + a0)) - a2)) a0))) = some r := h
  clear h
  by_cases c4 : a0 = 0
  · rw [if_pos c4] at H
    exact absurd H (by simp)
  · rw [if_neg c4] at H
    have c4b0 : (a0 == 0) = false := beq_eq_false_iff_ne.mpr c4
    have c4b1 : (a0 != 0) = true := bne_iff_ne.mpr c4
    obtain rfl := Option.some.inj H
    go_enter Try.func73, Try.ntmps73
    go_wp2
    go_ret
    exact ⟨by first | rfl | (simp; done) | (simp [*]; done), by repeat (first | exact Drawn0.refl _ | apply Drawn0.step)⟩

/-! ### affidavitref01_Gcd: function 80 -/
def affidavitref01_Gcd.l0 : Nat → Int → Int → Option (Int)
  | 0, _, _ => none
  | k + 1, x0, x1 => if x1 = 0 then (some x0) else (affidavitref01_Gcd.l0 k x1 (Int.tmod x0 x1))
def affidavitref01_Gcd.f (k : Nat) (a0 : Int) (a1 : Int) : Option (Int) := affidavitref01_Gcd.l0 k a0 a1
theorem affidavitref01_Gcd.mono_l : ∀ k, (∀ y0 y1, LeO (affidavitref01_Gcd.l0 k y0 y1) (affidavitref01_Gcd.l0 (k + 1) y0 y1))
  | 0 => fun _ _ r h => by simp [affidavitref01_Gcd.l0] at h
  | k + 1 => by
    have ih0 := affidavitref01_Gcd.mono_l k
    · intro y0 y1
      unfold affidavitref01_Gcd.l0
      repeat' first
      | (with_reducible exact ih0 _ _)
      | (with_reducible exact LeO.refl _)
      | (with_reducible exact LeO.none _)
      | (with_reducible refine LeO.ite ?_ ?_)
      | (with_reducible refine LeO.bind ?_ (fun _ => ?_))
      | exact ih0 _ _
      | exact LeO.none _
      | refine LeO.ite ?_ ?_
      | refine LeO.bind ?_ (fun _ => ?_)
theorem affidavitref01_Gcd.mono : ∀ a0 a1 k, LeO (affidavitref01_Gcd.f k a0 a1) (affidavitref01_Gcd.f (k + 1) a0 a1) := by
  intro a0 a1 k
  have ih0 := affidavitref01_Gcd.mono_l k
  unfold affidavitref01_Gcd.f
  repeat' first
      | (with_reducible exact ih0 _ _)
      | (with_reducible exact LeO.refl _)
      | (with_reducible exact LeO.none _)
      | (with_reducible refine LeO.ite ?_ ?_)
      | (with_reducible refine LeO.bind ?_ (fun _ => ?_))
      | exact ih0 _ _
      | exact LeO.none _
      | refine LeO.ite ?_ ?_
      | refine LeO.bind ?_ (fun _ => ?_)
set_option maxHeartbeats 8000000 in
set_option maxRecDepth 100000 in
theorem affidavitref01_Gcd.calls (k : Nat) (a0 : Int) (a1 : Int) (r : Int) (w : World) (h : affidavitref01_Gcd.f k a0 a1 = some r) :
    Calls Try.prog 80 #[.int .u64 a0, .int .u64 a1] w fun e w' => e = .returned (.int .u64 r) ∧ Drawn0 w w' := by
  have H : (affidavitref01_Gcd.l0 k a0 a1) = some r := h
  clear h
  have H' := Aside0.mk H
  clear H
  go_enter Try.func80, Try.ntmps80
  go_wp2
  repeat (go_quiet (fail); try go_wp2)
  go_loopg [0, 1] k (fun kq v0 v1 w' => ∃ (x0_1 : Int) (x1_1 : Int), v0 = .int .u64 x0_1 ∧ v1 = .int .u64 x1_1 ∧ Aside0 (affidavitref01_Gcd.l0 kq x0_1 x1_1 = some r) ∧ Aside0 (kq ≤ k) ∧ Drawn0 w w')
  case atStart => exact ⟨(a0), (a1), (by first | rfl | (simp; done) | (simp [*]; done)), (by first | rfl | (simp; done) | (simp [*]; done)), H', ⟨Nat.le_refl _⟩, by repeat (first | exact Drawn0.refl _ | apply Drawn0.step)⟩
  case round =>
    clear H'
    try clear p2
    obtain ⟨x0_1, x1_1, rfl, rfl, HA, HK1, ⟨m1, rfl⟩⟩ := hrel
    cases gk with
    | zero => exact absurd HA.out (by simp [affidavitref01_Gcd.l0])
    | succ k1 =>
      have H := HA.out
      clear HA
      simp only [affidavitref01_Gcd.l0] at H
      by_cases c3 : x1_1 = 0
      · rw [if_pos c3] at H
        have c3b0 : (x1_1 == 0) = true := beq_iff_eq.mpr c3
        have c3b1 : (x1_1 != 0) = false := bne_eq_false_iff_eq.mpr c3
        clear c3
        obtain rfl := Option.some.inj H
        go_wp2
        repeat (go_quiet (fail); try go_wp2)
        go_ret
        exact ⟨by first | rfl | (simp; done) | (simp [*]; done), by repeat (first | exact Drawn0.refl _ | apply Drawn0.step)⟩
      · rw [if_neg c3] at H
        have c3b0 : (x1_1 == 0) = false := beq_eq_false_iff_ne.mpr c3
        have c3b1 : (x1_1 != 0) = true := bne_iff_ne.mpr c3
        have H' := Aside0.mk H
        clear H
        go_wp2
        repeat (go_quiet (fail); try go_wp2)
        go_roundg k1
        case measure => have := HK1.out; omega
        case rel => exact ⟨(x1_1), (Int.tmod x0_1 x1_1), (by first | rfl | (simp; done) | (simp [*]; done)), (by first | rfl | (simp; done) | (simp [*]; done)), H', ⟨by have := HK1.out; omega⟩, by repeat (first | exact Drawn0.refl _ | apply Drawn0.step)⟩

/-! ### affidavitref01_Inv: function 74 -/
def affidavitref01_Inv.l0 : Nat → Int → Int → Int → Int → Int → Option (Int × Int)
  | 0, _, _, _, _, _ => none
  | k + 1, x0, x6, x7, x8, x9 => if x7 = 0 then (some (x8, 0)) else (if x0 = 0 then (none) else ((affidavitref01_Mul.f k x0 (Int.tmod (IntKind.u64.wrap (Int.tdiv x6 x7)) x0) x9).bind fun t256 => ((affidavitref01_Sub.f x0 x8 t256).bind fun t257 => (affidavitref01_Inv.l0 k x0 x7 (IntKind.u64.wrap (x6 - (IntKind.u64.wrap ((IntKind.u64.wrap (Int.tdiv x6 x7)) * x7)))) x9 t257))))
def affidavitref01_Inv.f (k : Nat) (a0 : Int) (a1 : Int) : Option (Int × Int) := (affidavitref01_Gcd.f k a0 a1).bind fun t255 => (if t255 = 1 then (affidavitref01_Inv.l0 k a0 a0 a1 0 1) else (some (0, 5)))
theorem affidavitref01_Inv.mono_l : ∀ k, (∀ y0 y1 y2 y3 y4, LeO (affidavitref01_Inv.l0 k y0 y1 y2 y3 y4) (affidavitref01_Inv.l0 (k + 1) y0 y1 y2 y3 y4))
  | 0 => fun _ _ _ _ _ r h => by simp [affidavitref01_Inv.l0] at h
  | k + 1 => by
    have ih0 := affidavitref01_Inv.mono_l k
    · intro y0 y1 y2 y3 y4
      unfold affidavitref01_Inv.l0
      repeat' first
      | (with_reducible exact ih0 _ _ _ _ _)
      | (with_reducible exact affidavitref01_Gcd.mono _ _ _)
      | (with_reducible exact affidavitref01_Mul.mono _ _ _ _)
      | (with_reducible exact LeO.refl _)
      | (with_reducible exact LeO.none _)
      | (with_reducible refine LeO.ite ?_ ?_)
      | (with_reducible refine LeO.bind ?_ (fun _ => ?_))
      | exact ih0 _ _ _ _ _
      | exact affidavitref01_Gcd.mono _ _ _
      | exact affidavitref01_Mul.mono _ _ _ _
      | exact LeO.none _
      | refine LeO.ite ?_ ?_
      | refine LeO.bind ?_ (fun _ => ?_)
theorem affidavitref01_Inv.mono : ∀ a0 a1 k, LeO (affidavitref01_Inv.f k a0 a1) (affidavitref01_Inv.f (k + 1) a0 a1) := by
  intro a0 a1 k
  have ih0 := affidavitref01_Inv.mono_l k
  unfold affidavitref01_Inv.f
  repeat' first
      | (with_reducible exact ih0 _ _ _ _ _)
      | (with_reducible exact affidavitref01_Gcd.mono _ _ _)
      | (with_reducible exact affidavitref01_Mul.mono _ _ _ _)
      | (with_reducible exact LeO.refl _)
      | (with_reducible exact LeO.none _)
      | (with_reducible refine LeO.ite ?_ ?_)
      | (with_reducible refine LeO.bind ?_ (fun _ => ?_))
      | exact ih0 _ _ _ _ _
      | exact affidavitref01_Gcd.mono _ _ _
      | exact affidavitref01_Mul.mono _ _ _ _
      | exact LeO.none _
      | refine LeO.ite ?_ ?_
      | refine LeO.bind ?_ (fun _ => ?_)
set_option maxHeartbeats 8000000 in
set_option maxRecDepth 100000 in
theorem affidavitref01_Inv.calls (k : Nat) (a0 : Int) (a1 : Int) (r1 : Int) (r2 : Int) (w : World) (h : affidavitref01_Inv.f k a0 a1 = some (r1, r2)) :
    Calls Try.prog 74 #[.int .u64 a0, .int .u64 a1] w fun e w' => e = .returned (.tuple #[.int .u64 r1, .int .i64 r2]) ∧ Drawn0 w w' := by
  have H : ((affidavitref01_Gcd.f k a0 a1).bind fun t255 => (if t255 = 1 then (affidavitref01_Inv.l0 k a0 a0 a1 0 1) else (some (0, 5)))) = some (r1, r2) := h
  clear h
  replace H := Option.bind_eq_some_iff.mp H
  obtain ⟨t255, A30, H⟩ := H
  replace H : (if t255 = 1 then (affidavitref01_Inv.l0 k a0 a0 a1 0 1) else (some (0, 5))) = some (r1, r2) := H
  have A3 := Aside0.mk A30
  clear A30
  by_cases c4 : t255 = 1
  · rw [if_pos c4] at H
    have c4b0 : (t255 == 1) = true := beq_iff_eq.mpr c4
    have c4b1 : (t255 != 1) = false := bne_eq_false_iff_eq.mpr c4
    clear c4
    have H' := Aside0.mk H
    clear H
    go_enter Try.func74, Try.ntmps74
    go_wp2_with (first | ((with_reducible refine gate_callee (f := 80) rfl ?_); refine goesL_ (some 13) rfl rfl Try.func80 (by kernel_rfl) rfl #[.int .u64 a0, .int .u64 a1] rfl (by (try simp only [List.map_toArray, List.map_cons, List.map_nil]); first | done | rfl | (simp only [List.length_drop, List.length_take]; rfl)) ?_; (with_reducible refine (affidavitref01_Gcd.calls k a0 a1 t255 _ A3.out).mono ?_); rintro e w' ⟨rfl, ⟨nd, rfl⟩⟩; refine ⟨_, rfl, ?_⟩))
    go_loopg [6, 7, 8, 9] k (fun kq v6 v7 v8 v9 w' => ∃ (x6_1 : Int) (x7_1 : Int) (x8_1 : Int) (x9_1 : Int), v6 = .int .u64 x6_1 ∧ v7 = .int .u64 x7_1 ∧ v8 = .int .u64 x8_1 ∧ v9 = .int .u64 x9_1 ∧ Aside0 (affidavitref01_Inv.l0 kq a0 x6_1 x7_1 x8_1 x9_1 = some (r1, r2)) ∧ Aside0 (kq ≤ k) ∧ Drawn0 w w')
    case atStart => exact ⟨(a0), (a1), (0), (1), (by first | rfl | (simp; done) | (simp [*]; done)), (by first | rfl | (simp; done) | (simp [*]; done)), (by first | rfl | (simp; done) | (simp [*]; done)), (by first | rfl | (simp; done) | (simp [*]; done)), H', ⟨Nat.le_refl _⟩, by repeat (first | exact Drawn0.refl _ | apply Drawn0.step)⟩
    case round =>
      clear H'
      try clear p2
      try clear c4
      try clear c4b0
      try clear c4b1
      obtain ⟨x6_1, x7_1, x8_1, x9_1, rfl, rfl, rfl, rfl, HA, HK1, ⟨m1, rfl⟩⟩ := hrel
      cases gk with
      | zero => exact absurd HA.out (by simp [affidavitref01_Inv.l0])
      | succ k1 =>
        have H := HA.out
        clear HA
        simp only [affidavitref01_Inv.l0] at H
        by_cases c5 : x7_1 = 0
        · rw [if_pos c5] at H
          have c5b0 : (x7_1 == 0) = true := beq_iff_eq.mpr c5
          have c5b1 : (x7_1 != 0) = false := bne_eq_false_iff_eq.mpr c5
          clear c5
          simp only [Option.some.injEq, Prod.mk.injEq] at H
          obtain ⟨rfl, rfl⟩ := H
          go_wp2
          go_ret2
          exact ⟨by first | rfl | (simp; done) | (simp [*]; done), by repeat (first | exact Drawn0.refl _ | apply Drawn0.step)⟩
        · rw [if_neg c5] at H
          have c5b0 : (x7_1 == 0) = false := beq_eq_false_iff_ne.mpr c5
          have c5b1 : (x7_1 != 0) = true := bne_iff_ne.mpr c5
          by_cases c6 : a0 = 0
          · rw [if_pos c6] at H
            exact absurd H (by simp)
          · rw [if_neg c6] at H
            have c6b0 : (a0 == 0) = false := beq_eq_false_iff_ne.mpr c6
            have c6b1 : (a0 != 0) = true := bne_iff_ne.mpr c6
            replace H := Option.bind_eq_some_iff.mp H
            obtain ⟨t256, A70, H⟩ := H
            replace H : ((affidavitref01_Sub.f a0 x8_1 t256).bind fun t257 => (affidavitref01_Inv.l0 k1 a0 x7_1 (IntKind.u64.wrap (x6_1 - (IntKind.u64.wrap ((IntKind.u64.wrap (Int.tdiv x6_1 x7_1)) * x7_1)))) x9_1 t257)) = some (r1, r2) := H
            have A7 := Aside0.mk A70
            clear A70
            replace H := Option.bind_eq_some_iff.mp H
            obtain ⟨t257, A80, H⟩ := H
            replace H : (affidavitref01_Inv.l0 k1 a0 x7_1 (IntKind.u64.wrap (x6_1 - (IntKind.u64.wrap ((IntKind.u64.wrap (Int.tdiv x6_1 x7_1)) * x7_1)))) x9_1 t257) = some (r1, r2) := H
            have A8 := Aside0.mk A80
            clear A80
            have H' := Aside0.mk H
            clear H
            go_wp2_with (first | ((with_reducible refine gate_callee (f := 50) rfl ?_); refine goesL_ (some 36) rfl rfl Try.func50 (by kernel_rfl) rfl #[.int .u64 a0, .int .u64 (Int.tmod (IntKind.u64.wrap (Int.tdiv x6_1 x7_1)) a0), .int .u64 x9_1] rfl (by (try simp only [List.map_toArray, List.map_cons, List.map_nil]); first | done | rfl | (simp only [List.length_drop, List.length_take]; rfl)) ?_; (with_reducible refine (affidavitref01_Mul.calls k1 a0 (Int.tmod (IntKind.u64.wrap (Int.tdiv x6_1 x7_1)) a0) x9_1 t256 _ A7.out).mono ?_); rintro e w' ⟨rfl, ⟨nd, rfl⟩⟩; refine ⟨_, rfl, ?_⟩) | ((with_reducible refine gate_callee (f := 73) rfl ?_); refine goesL_ (some 37) rfl rfl Try.func73 (by kernel_rfl) rfl #[.int .u64 a0, .int .u64 x8_1, .int .u64 t256] rfl (by (try simp only [List.map_toArray, List.map_cons, List.map_nil]); first | done | rfl | (simp only [List.length_drop, List.length_take]; rfl)) ?_; (with_reducible refine (affidavitref01_Sub.calls a0 x8_1 t256 t257 _ A8.out).mono ?_); rintro e w' ⟨rfl, ⟨nd, rfl⟩⟩; refine ⟨_, rfl, ?_⟩))
            go_roundg k1
            case measure => have := HK1.out; omega
            case rel => exact ⟨(x7_1), (IntKind.u64.wrap (x6_1 - (IntKind.u64.wrap ((IntKind.u64.wrap (Int.tdiv x6_1 x7_1)) * x7_1)))), (x9_1), (t257), (by first | rfl | (simp; done) | (simp [*]; done)), (by first | rfl | (simp; done) | (simp [*]; done)), (by first | rfl | (simp; done) | (simp [*]; done)), (by first | rfl | (simp; done) | (simp [*]; done)), H', ⟨by have := HK1.out; omega⟩, by repeat (first | exact Drawn0.refl _ | apply Drawn0.step)⟩
  · rw [if_neg c4] at H
    have c4b0 : (t255 == 1) = false := beq_eq_false_iff_ne.mpr c4
    have c4b1 : (t255 != 1) = true := bne_iff_ne.mpr c4
    simp only [Option.some.injEq, Prod.mk.injEq] at H
    obtain ⟨rfl, rfl⟩ := H
    go_enter Try.func74, Try.ntmps74
    go_wp2_with (first | ((with_reducible refine gate_callee (f := 80) rfl ?_); refine goesL_ (some 13) rfl rfl Try.func80 (by kernel_rfl) rfl #[.int .u64 a0, .int .u64 a1] rfl (by (try simp only [List.map_toArray, List.map_cons, List.map_nil]); first | done | rfl | (simp only [List.length_drop, List.length_take]; rfl)) ?_; (with_reducible refine (affidavitref01_Gcd.calls k a0 a1 t255 _ A3.out).mono ?_); rintro e w' ⟨rfl, ⟨nd, rfl⟩⟩; refine ⟨_, rfl, ?_⟩))
    go_ret2
    exact ⟨by first | rfl | (simp; done) | (simp [*]; done), by repeat (first | exact Drawn0.refl _ | apply Drawn0.step)⟩

end Go.Proofs.Ytffcjgelcdilcaa.PSer

/- Contracts of functions of the given program: printed out of the translation by a program of this session, with texts by hand for what the print does not take. -/
import Derived.Test.YtghkngdcmlhmeaaPQux0
import Derived.Test.YtghkngdcmlhmeaaPQux1
import Derived.Test.YtghkngdcmlhmeaaPQux14
namespace Go.Proofs.Ytghkngdcmlhmeaa.PQu
open Go.RowKit Go.Proofs.YtghkngdcmlhmeaaW.PrintWords Go.Proofs.YtghkngdcmlhmeaaW.PrintLast Go.Proofs.YtghkngdcmlhmeaaW.PrintMore
attribute [local go_sem] max2_int min2_int max_two min_two max_three min_three max_four min_four   -- for this text's walks alone
set_option linter.unusedVariables false
set_option linter.unusedSimpArgs false

attribute [local go_sem high] eqA51
/-! ### api_Fate_37: function 37 -/
def api_Fate_37.f (l0 : List (S51)) : Option ((List (S51))) := (some (([] : List (S51)) : List (S51))).bind fun y251 => (if y251.length + l0.length < 5864062014805 then (some (y251 ++ l0)) else (none))
set_option maxHeartbeats 8000000 in
set_option maxRecDepth 100000 in
theorem api_Fate_37.calls (A0 : Option Addr) (c0 : Nat) (l0 : List (S51)) (r : List (S51)) (w : World) (hr0 : Kd.C k51 w A0 l0.length l0) (hc0 : l0.length ≤ c0) (h : api_Fate_37.f l0 = some r) :
    Calls Try.prog 37 #[.slice A0 l0.length c0] w fun e w' => ∃ v0_ : Value, e = .returned (v0_) ∧ Kd.R k51 51 w' w.heap.size (fun _ => True) v0_ r ∧ Below w.heap.size w w' := by
  have q_ : ∀ (w : World) (a : Option Addr) (n c n' c' : Nat), (binOp .eql 41 (.slice a n c) (.slice none n' c')).run Try.prog w = .ok (.bool a.isNone) w := fun w a n c n' c' => Lib.run_eql_slice_nil w _ _ a n c n' c' Try.underlying41
  cases A0 with
  | none =>
    have hl_ : l0 = [] := by
      cases l0 with
      | nil => rfl
      | cons x xs => obtain ⟨ad_, e_, _⟩ := hr0.2.2 (by simp); cases e_
    subst hl_
    have hr_ : r = [] := by simp [api_Fate_37.f] at h; first | exact h | exact h.symm
    subst hr_
    go_enter Try.func37, Try.ntmps37
    go_wp2
    go_ret
    exact ⟨_, rfl, by first | exact Kd.R_nil _ _ _ _ _ | exact Kd.N_nil _ _ _ _ _, Below.refl _ _⟩
  | some A0 =>
    have HR0 := Aside0.mk hr0
    have HC0 := Aside0.mk hc0
    clear hr0 hc0
    have HB := Aside0.mk (Below.refl w.heap.size w)
    have H : ((some (([] : List (S51)) : List (S51))).bind fun y251 => (if y251.length + l0.length < 5864062014805 then (some (y251 ++ l0)) else (none))) = some r := h
    clear h
    obtain ⟨y251, hy251⟩ : ∃ y_ : List (S51), y_ = (([] : List (S51))) := ⟨_, rfl⟩
    replace H : (if y251.length + l0.length < 5864062014805 then (some (y251 ++ l0)) else (none)) = some r := by first | (rw [hy251]; with_reducible exact H) | (have H2_ := (Option.bind_some _ _).symm.trans H; rw [hy251]; with_reducible exact H2_) | (have H2_ := (Option.bind_some _ _).symm.trans H; with_reducible exact H2_) | with_reducible exact H | (rw [hy251]; exact H) | exact H
    have Ny251 := Aside0.mk hy251
    clear hy251
    by_cases c2 : y251.length + l0.length < 5864062014805
    · rw [if_pos c2] at H
      have LMc2 := Aside0.mk c2
      clear c2
      obtain ⟨y254, hy254⟩ : ∃ y_ : List (S51), y_ = (y251 ++ l0) := ⟨_, rfl⟩
      replace H : (some y254) = some r := by first | (rw [hy254]; with_reducible exact H) | (have H2_ := (Option.bind_some _ _).symm.trans H; rw [hy254]; with_reducible exact H2_) | (have H2_ := (Option.bind_some _ _).symm.trans H; with_reducible exact H2_) | with_reducible exact H | (rw [hy254]; exact H) | exact H
      have Ny254 := Aside0.mk hy254
      clear hy254
      obtain rfl := Option.some.inj H
      go_enter Try.func37, Try.ntmps37
      go_wp2_with (first | ((with_reducible refine gate_dst (N := 5) rfl ?_); refine Kd.R_lit k51 _ 51 ?hg (N := 5) ?hd (xs := ([] : List (S51))) (inner := []) (ok := fun _ => True) (okp := fun _ => True) ?hr ?hp (fun _ hk => hk) trivial (Below.refl _ _) (Nat.le_refl _) (by simp) ?_; (case hd => rfl); (case hg => rfl); (case hr => first | (go_simp; done) | (go_simp; rfl)); (case hp => exact (Reps.none _ _)); intro v252 w3 ho4 hb hg_ hnew_; clear hg_ hnew_; (first | rw [← Ny251.out] at ho4 | (simp only [Int.reduceToNat] at ho4; rw [← Ny251.out] at ho4)); have n0_ := Aside0.mk (Kd.R_lower ho4 (below_size (by repeat (first | (with_reducible first | exact HB.out | apply below_alloc | apply pw_below_drewN | apply below_drew1) | exact HB.out)))); have n1_ := Aside0.mk (below_step (by repeat (first | (with_reducible first | exact HB.out | apply below_alloc | apply pw_below_drewN | apply below_drew1) | exact HB.out)) hb); clear HB; have HO253 := n0_; have HB := n1_; clear n0_ n1_; clear hb ho4) | ((with_reducible refine gate_builtin (b := .append) (xs := #[.tmp 5, .tmp 6]) rfl ?_); at_builtin; refine Kd.R_append_rows k51 (w0 := w) w.heap.size rfl (.tmp 5) (.tmp 6) 41 51 (.agg #[(.bool false), (.bool false), (.int .i64 0), (.int .i64 0)]) 24 rfl Try.underlying41 info51 rfl (by decide) (by omega) v252 y251 l0 _ _ _ (fun _ => True) (fun _ => False) rfl rfl ?aO ?aR (fun _ _ h => h) (fun _ h => h.elim) ?aF ?aB ?aS ?aL ?_; (case aR => repeat (first | exact (Kd.C_below HR0.out HB.out) | (with_reducible refine Kd.C_alloc ?_ _) | (with_reducible refine Kd.C_drewN ?_ _) | (with_reducible refine Kd.C_drew ?_))); (case aB => exact (by repeat (first | (with_reducible first | exact HB.out | apply below_alloc | apply pw_below_drewN | apply below_drew1) | exact HB.out))); (case aF => exact (fun _ _ => trivial)); (case aO => exact (by (with_reducible repeat (first | apply Kd.R_alloc | apply Kd.R_drewN | apply Kd.R_drew)); exact HO253.out)); (case aS => exact (below_size (by repeat (first | (with_reducible first | exact HB.out | apply below_alloc | apply pw_below_drewN | apply below_drew1) | exact HB.out)))); (case aL => have := LMc2.out; omega); intro v255 w5 ho hb hg hat; rw [← Ny254.out] at ho; have n0_ := Aside0.mk (hb); have n1_ := Aside0.mk (ho); clear HB; clear HO253; have HB := n0_; have HO256 := n1_; clear n0_ n1_; clear ho hb hg hat))
      go_ret
      exact ⟨_, by first | rfl | (simp [errW_none, errW_some] <;> rfl) | (simp [*, errW_none, errW_some] <;> rfl), by (with_reducible repeat (first | apply Kd.R_alloc | apply Kd.R_drewN | apply Kd.R_drew)); exact HO256.out, by repeat (first | (with_reducible first | exact HB.out | apply below_alloc | apply pw_below_drewN | apply below_drew1) | exact HB.out)⟩
    · rw [if_neg c2] at H
      exact absurd H (by simp)

-- (inside a given text)

-- (inside a given text)

-- (inside a given text)

-- (inside a given text)

-- (inside a given text)

-- (inside a given text)

-- (inside a given text)

-- (inside a given text)

-- (inside a given text)

/-! ### affidavitref21_Same: function 27 -/
mutual
def affidavitref21_Same.j0 : Nat → Bool → Int → Int → List (S25) → List (S51) → Int → Int → List (S25) → List (S51) → Option (Bool)
  | 0, _, _, _, _, _, _, _, _, _ => none
  | k + 1, x34, x258000, x258001, x258002, x258003, x259000, x259001, x259002, x259003 => if x34 = true then (some false) else (affidavitref21_Same.l0 k 0 x258000 x258001 x258002 x258003 x259000 x259001 x259002 x259003)
def affidavitref21_Same.l0 : Nat → Int → Int → Int → List (S25) → List (S51) → Int → Int → List (S25) → List (S51) → Option (Bool)
  | 0, _, _, _, _, _, _, _, _, _ => none
  | k + 1, x5, x258000, x258001, x258002, x258003, x259000, x259001, x259002, x259003 => if x5 < (x258003.length : Int) then (if 0 ≤ x5 then (if x5 < (x259003.length : Int) then (if (!(((rd_T51 x258003 x5).f0) == ((rd_T51 x259003 x5).f0)) || (!(((rd_T51 x258003 x5).f1) == ((rd_T51 x259003 x5).f1)) || (!(((rd_T51 x258003 x5).f2) == ((rd_T51 x259003 x5).f2)) || (!(((rd_T51 x258003 x5).f3) == ((rd_T51 x259003 x5).f3)))))) = true then (some false) else (affidavitref21_Same.l0 k (wrap64 (x5 + 1)) x258000 x258001 x258002 x258003 x259000 x259001 x259002 x259003)) else (none)) else (none)) else (some true)
end
def affidavitref21_Same.f (k : Nat) (a0_0 : Int) (a0_1 : Int) (l0_2 : List (S25)) (l0_3 : List (S51)) (a1_0 : Int) (a1_1 : Int) (l1_2 : List (S25)) (l1_3 : List (S51)) : Option (Bool) := if a0_0 = a1_0 then (if a0_1 = a1_1 then ((affidavitref20_Same.f k l0_2 l1_2).bind fun t259 => (if t259 = true then (affidavitref21_Same.j0 k ((l0_3.length : Int) != (l1_3.length : Int)) a0_0 a0_1 l0_2 l0_3 a1_0 a1_1 l1_2 l1_3) else (affidavitref21_Same.j0 k true a0_0 a0_1 l0_2 l0_3 a1_0 a1_1 l1_2 l1_3))) else (affidavitref21_Same.j0 k true a0_0 a0_1 l0_2 l0_3 a1_0 a1_1 l1_2 l1_3)) else (affidavitref21_Same.j0 k true a0_0 a0_1 l0_2 l0_3 a1_0 a1_1 l1_2 l1_3)
theorem affidavitref21_Same.mono_l : ∀ k, (∀ y0 y1 y2 y3 y4 y5 y6 y7 y8, LeO (affidavitref21_Same.j0 k y0 y1 y2 y3 y4 y5 y6 y7 y8) (affidavitref21_Same.j0 (k + 1) y0 y1 y2 y3 y4 y5 y6 y7 y8)) ∧ (∀ y0 y1 y2 y3 y4 y5 y6 y7 y8, LeO (affidavitref21_Same.l0 k y0 y1 y2 y3 y4 y5 y6 y7 y8) (affidavitref21_Same.l0 (k + 1) y0 y1 y2 y3 y4 y5 y6 y7 y8))
  | 0 => ⟨fun _ _ _ _ _ _ _ _ _ r h => by simp [affidavitref21_Same.j0] at h, fun _ _ _ _ _ _ _ _ _ r h => by simp [affidavitref21_Same.l0] at h⟩
  | k + 1 => by
    obtain ⟨ih0, ih1⟩ := affidavitref21_Same.mono_l k
    refine ⟨?_, ?_⟩
    · intro y0 y1 y2 y3 y4 y5 y6 y7 y8
      unfold affidavitref21_Same.j0
      repeat' first
      | (with_reducible exact ih0 _ _ _ _ _ _ _ _ _)
      | (with_reducible exact ih1 _ _ _ _ _ _ _ _ _)
      | (with_reducible exact affidavitref20_Same.mono _ _ _)
      | (with_reducible exact LeO.refl _)
      | (with_reducible exact LeO.none _)
      | (with_reducible refine LeO.ite ?_ ?_)
      | (with_reducible refine LeO.bind ?_ (fun _ => ?_))
      | exact ih0 _ _ _ _ _ _ _ _ _
      | exact ih1 _ _ _ _ _ _ _ _ _
      | exact affidavitref20_Same.mono _ _ _
      | exact LeO.none _
      | refine LeO.ite ?_ ?_
      | refine LeO.bind ?_ (fun _ => ?_)
    · intro y0 y1 y2 y3 y4 y5 y6 y7 y8
      unfold affidavitref21_Same.l0
      repeat' first
      | (with_reducible exact ih0 _ _ _ _ _ _ _ _ _)
      | (with_reducible exact ih1 _ _ _ _ _ _ _ _ _)
      | (with_reducible exact affidavitref20_Same.mono _ _ _)
      | (with_reducible exact LeO.refl _)
      | (with_reducible exact LeO.none _)
      | (with_reducible refine LeO.ite ?_ ?_)
      | (with_reducible refine LeO.bind ?_ (fun _ => ?_))
      | exact ih0 _ _ _ _ _ _ _ _ _
      | exact ih1 _ _ _ _ _ _ _ _ _
      | exact affidavitref20_Same.mono _ _ _
      | exact LeO.none _
      | refine LeO.ite ?_ ?_
      | refine LeO.bind ?_ (fun _ => ?_)
theorem affidavitref21_Same.mono : ∀ a0 a1 a2 a3 a4 a5 a6 a7 k, LeO (affidavitref21_Same.f k a0 a1 a2 a3 a4 a5 a6 a7) (affidavitref21_Same.f (k + 1) a0 a1 a2 a3 a4 a5 a6 a7) := by
  intro a0 a1 a2 a3 a4 a5 a6 a7 k
  obtain ⟨ih0, ih1⟩ := affidavitref21_Same.mono_l k
  unfold affidavitref21_Same.f
  repeat' first
      | (with_reducible exact ih0 _ _ _ _ _ _ _ _ _)
      | (with_reducible exact ih1 _ _ _ _ _ _ _ _ _)
      | (with_reducible exact affidavitref20_Same.mono _ _ _)
      | (with_reducible exact LeO.refl _)
      | (with_reducible exact LeO.none _)
      | (with_reducible refine LeO.ite ?_ ?_)
      | (with_reducible refine LeO.bind ?_ (fun _ => ?_))
      | exact ih0 _ _ _ _ _ _ _ _ _
      | exact ih1 _ _ _ _ _ _ _ _ _
      | exact affidavitref20_Same.mono _ _ _
      | exact LeO.none _
      | refine LeO.ite ?_ ?_
      | refine LeO.bind ?_ (fun _ => ?_)
set_option maxHeartbeats 8000000 in
set_option maxRecDepth 100000 in
theorem affidavitref21_Same.calls (k : Nat) (a0_0 : Int) (a0_1 : Int) (A0_2 : Option Addr) (c0_2 : Nat) (l0_2 : List (S25)) (A0_3 : Option Addr) (c0_3 : Nat) (l0_3 : List (S51)) (a1_0 : Int) (a1_1 : Int) (A1_2 : Option Addr) (c1_2 : Nat) (l1_2 : List (S25)) (A1_3 : Option Addr) (c1_3 : Nat) (l1_3 : List (S51)) (r : Bool) (w : World) (hr0_2 : Kd.C k25 w A0_2 l0_2.length l0_2) (hc0_2 : l0_2.length ≤ c0_2) (hr0_3 : Kd.C k51 w A0_3 l0_3.length l0_3) (hc0_3 : l0_3.length ≤ c0_3) (hr1_2 : Kd.C k25 w A1_2 l1_2.length l1_2) (hc1_2 : l1_2.length ≤ c1_2) (hr1_3 : Kd.C k51 w A1_3 l1_3.length l1_3) (hc1_3 : l1_3.length ≤ c1_3) (h : affidavitref21_Same.f k a0_0 a0_1 l0_2 l0_3 a1_0 a1_1 l1_2 l1_3 = some r) :
    Calls Try.prog 27 #[.agg #[.int .i64 a0_0, .int .i64 a0_1, .slice A0_2 l0_2.length c0_2, .slice A0_3 l0_3.length c0_3], .agg #[.int .i64 a1_0, .int .i64 a1_1, .slice A1_2 l1_2.length c1_2, .slice A1_3 l1_3.length c1_3]] w fun e w' => e = .returned (.bool r) ∧ Below w.heap.size w w' := by
  have hu44 := Try.underlying44
  have hu51 := Try.underlying51
  have HR0_2 := Aside0.mk hr0_2
  have HC0_2 := Aside0.mk hc0_2
  clear hr0_2 hc0_2
  have HR0_3 := Aside0.mk hr0_3
  have HC0_3 := Aside0.mk hc0_3
  clear hr0_3 hc0_3
  have HR1_2 := Aside0.mk hr1_2
  have HC1_2 := Aside0.mk hc1_2
  clear hr1_2 hc1_2
  have HR1_3 := Aside0.mk hr1_3
  have HC1_3 := Aside0.mk hc1_3
  clear hr1_3 hc1_3
  have HB := Aside0.mk (Below.refl w.heap.size w)
  have H : (if a0_0 = a1_0 then (if a0_1 = a1_1 then ((affidavitref20_Same.f k l0_2 l1_2).bind fun t259 => (if t259 = true then (affidavitref21_Same.j0 k ((l0_3.length : Int) != (l1_3.length : Int)) a0_0 a0_1 l0_2 l0_3 a1_0 a1_1 l1_2 l1_3) else (affidavitref21_Same.j0 k true a0_0 a0_1 l0_2 l0_3 a1_0 a1_1 l1_2 l1_3))) else (affidavitref21_Same.j0 k true a0_0 a0_1 l0_2 l0_3 a1_0 a1_1 l1_2 l1_3)) else (affidavitref21_Same.j0 k true a0_0 a0_1 l0_2 l0_3 a1_0 a1_1 l1_2 l1_3)) = some r := h
  clear h
  have HC3 := Aside0.mk H
  clear H
  go_enter Try.func27, Try.ntmps27
  go_upto_region 1 with (first | ((with_reducible refine gate_dst (N := 2) rfl ?_); (try (refine gate_guard (by rfl) ?_; dsimp only)); refine box_event ?hg (N := 2) ?hd (cs := #[.int .i64 a0_0, .int .i64 a0_1, .slice A0_2 l0_2.length c0_2, .slice A0_3 l0_3.length c0_3]) (t := 44) ?hr ?_; (case hd => rfl); (case hg => rfl); (case hr => first | (go_simp; done) | (go_simp; rfl)); intro gb257 hg w4 hbox hb; have n0_ := Aside0.mk (below_step (by repeat (first | (with_reducible first | exact HB.out | apply below_alloc | apply pw_below_drewN | apply below_drew1) | exact HB.out)) hb); have n1_ := Aside0.mk (hbox); have n2_ := Aside0.mk ((by rw [hg]; exact (below_size (by repeat (first | (with_reducible first | exact HB.out | apply below_alloc | apply pw_below_drewN | apply below_drew1) | exact HB.out))) : w.heap.size ≤ gb257)); have n3_ := Aside0.mk ((by rw [hg]; exact (below_size (by repeat (first | (with_reducible first | exact HB.out | apply below_alloc | apply pw_below_drewN | apply below_drew1) | exact HB.out))) : w.heap.size ≤ gb257)); clear HB; have HB := n0_; have BK257 := n1_; have GW257 := n2_; have GE257 := n3_; clear n0_ n1_ n2_ n3_; clear hb hbox hg) | ((with_reducible refine gate_dst (N := 3) rfl ?_); (try (refine gate_guard (by rfl) ?_; dsimp only)); refine box_event ?hg (N := 3) ?hd (cs := #[.int .i64 a1_0, .int .i64 a1_1, .slice A1_2 l1_2.length c1_2, .slice A1_3 l1_3.length c1_3]) (t := 44) ?hr ?_; (case hd => rfl); (case hg => rfl); (case hr => first | (go_simp; done) | (go_simp; rfl)); intro gb258 hg w5 hbox hb; have n0_ := Aside0.mk (blk_below (g := gb257) (o := .cells #[.int .i64 a0_0, .int .i64 a0_1, .slice A0_2 l0_2.length c0_2, .slice A0_3 l0_3.length c0_3] 44 (0, 0)) (by (with_reducible repeat (first | refine blk_drewN ?_ _ | refine blk_drew ?_ | refine blk_alloc ?_ _)); exact BK257.out) hb); have n1_ := Aside0.mk (below_step (by repeat (first | (with_reducible first | exact HB.out | apply below_alloc | apply pw_below_drewN | apply below_drew1 | refine below_set ?_ GE257.out) | exact HB.out)) hb); have n2_ := Aside0.mk (hbox); have n3_ := Aside0.mk ((by rw [hg]; exact (below_size (by repeat (first | (with_reducible first | exact HB.out | apply below_alloc | apply pw_below_drewN | apply below_drew1 | refine below_set ?_ GE257.out) | exact HB.out))) : w.heap.size ≤ gb258)); have n4_ := Aside0.mk ((by rw [hg]; exact (below_size (by repeat (first | (with_reducible first | exact HB.out | apply below_alloc | apply pw_below_drewN | apply below_drew1 | refine below_set ?_ GE257.out) | exact HB.out))) : w.heap.size ≤ gb258)); have n5_ := Aside0.mk ((by rw [hg]; exact Nat.ne_of_lt (blk_lt (g := gb257) (o := .cells #[.int .i64 a0_0, .int .i64 a0_1, .slice A0_2 l0_2.length c0_2, .slice A0_3 l0_3.length c0_3] 44 (0, 0)) (by (with_reducible repeat (first | refine blk_drewN ?_ _ | refine blk_drew ?_ | refine blk_alloc ?_ _)); exact BK257.out)) : gb257 ≠ gb258)); have n6_ := Aside0.mk ((by rw [hg]; exact Nat.ne_of_gt (blk_lt (g := gb257) (o := .cells #[.int .i64 a0_0, .int .i64 a0_1, .slice A0_2 l0_2.length c0_2, .slice A0_3 l0_3.length c0_3] 44 (0, 0)) (by (with_reducible repeat (first | refine blk_drewN ?_ _ | refine blk_drew ?_ | refine blk_alloc ?_ _)); exact BK257.out)) : gb258 ≠ gb257)); clear BK257; clear HB; have BK257 := n0_; have HB := n1_; have BK258 := n2_; have GW258 := n3_; have GE258 := n4_; have NB257_258 := n5_; have NB258_257 := n6_; clear n0_ n1_ n2_ n3_ n4_ n5_ n6_; clear hb hbox hg))
  repeat (go_quiet (first | ((with_reducible refine gate_dst (N := 2) rfl ?_); (try (refine gate_guard (by rfl) ?_; dsimp only)); refine box_event ?hg (N := 2) ?hd (cs := #[.int .i64 a0_0, .int .i64 a0_1, .slice A0_2 l0_2.length c0_2, .slice A0_3 l0_3.length c0_3]) (t := 44) ?hr ?_; (case hd => rfl); (case hg => rfl); (case hr => first | (go_simp; done) | (go_simp; rfl)); intro gb257 hg w4 hbox hb; have n0_ := Aside0.mk (below_step (by repeat (first | (with_reducible first | exact HB.out | apply below_alloc | apply pw_below_drewN | apply below_drew1) | exact HB.out)) hb); have n1_ := Aside0.mk (hbox); have n2_ := Aside0.mk ((by rw [hg]; exact (below_size (by repeat (first | (with_reducible first | exact HB.out | apply below_alloc | apply pw_below_drewN | apply below_drew1) | exact HB.out))) : w.heap.size ≤ gb257)); have n3_ := Aside0.mk ((by rw [hg]; exact (below_size (by repeat (first | (with_reducible first | exact HB.out | apply below_alloc | apply pw_below_drewN | apply below_drew1) | exact HB.out))) : w.heap.size ≤ gb257)); clear HB; have HB := n0_; have BK257 := n1_; have GW257 := n2_; have GE257 := n3_; clear n0_ n1_ n2_ n3_; clear hb hbox hg) | ((with_reducible refine gate_dst (N := 3) rfl ?_); (try (refine gate_guard (by rfl) ?_; dsimp only)); refine box_event ?hg (N := 3) ?hd (cs := #[.int .i64 a1_0, .int .i64 a1_1, .slice A1_2 l1_2.length c1_2, .slice A1_3 l1_3.length c1_3]) (t := 44) ?hr ?_; (case hd => rfl); (case hg => rfl); (case hr => first | (go_simp; done) | (go_simp; rfl)); intro gb258 hg w5 hbox hb; have n0_ := Aside0.mk (blk_below (g := gb257) (o := .cells #[.int .i64 a0_0, .int .i64 a0_1, .slice A0_2 l0_2.length c0_2, .slice A0_3 l0_3.length c0_3] 44 (0, 0)) (by (with_reducible repeat (first | refine blk_drewN ?_ _ | refine blk_drew ?_ | refine blk_alloc ?_ _)); exact BK257.out) hb); have n1_ := Aside0.mk (below_step (by repeat (first | (with_reducible first | exact HB.out | apply below_alloc | apply pw_below_drewN | apply below_drew1 | refine below_set ?_ GE257.out) | exact HB.out)) hb); have n2_ := Aside0.mk (hbox); have n3_ := Aside0.mk ((by rw [hg]; exact (below_size (by repeat (first | (with_reducible first | exact HB.out | apply below_alloc | apply pw_below_drewN | apply below_drew1 | refine below_set ?_ GE257.out) | exact HB.out))) : w.heap.size ≤ gb258)); have n4_ := Aside0.mk ((by rw [hg]; exact (below_size (by repeat (first | (with_reducible first | exact HB.out | apply below_alloc | apply pw_below_drewN | apply below_drew1 | refine below_set ?_ GE257.out) | exact HB.out))) : w.heap.size ≤ gb258)); have n5_ := Aside0.mk ((by rw [hg]; exact Nat.ne_of_lt (blk_lt (g := gb257) (o := .cells #[.int .i64 a0_0, .int .i64 a0_1, .slice A0_2 l0_2.length c0_2, .slice A0_3 l0_3.length c0_3] 44 (0, 0)) (by (with_reducible repeat (first | refine blk_drewN ?_ _ | refine blk_drew ?_ | refine blk_alloc ?_ _)); exact BK257.out)) : gb257 ≠ gb258)); have n6_ := Aside0.mk ((by rw [hg]; exact Nat.ne_of_gt (blk_lt (g := gb257) (o := .cells #[.int .i64 a0_0, .int .i64 a0_1, .slice A0_2 l0_2.length c0_2, .slice A0_3 l0_3.length c0_3] 44 (0, 0)) (by (with_reducible repeat (first | refine blk_drewN ?_ _ | refine blk_drew ?_ | refine blk_alloc ?_ _)); exact BK257.out)) : gb258 ≠ gb257)); clear BK257; clear HB; have BK257 := n0_; have HB := n1_; have BK258 := n2_; have GW258 := n3_; have GE258 := n4_; have NB257_258 := n5_; have NB258_257 := n6_; clear n0_ n1_ n2_ n3_ n4_ n5_ n6_; clear hb hbox hg)); go_upto_region 1 with (first | ((with_reducible refine gate_dst (N := 2) rfl ?_); (try (refine gate_guard (by rfl) ?_; dsimp only)); refine box_event ?hg (N := 2) ?hd (cs := #[.int .i64 a0_0, .int .i64 a0_1, .slice A0_2 l0_2.length c0_2, .slice A0_3 l0_3.length c0_3]) (t := 44) ?hr ?_; (case hd => rfl); (case hg => rfl); (case hr => first | (go_simp; done) | (go_simp; rfl)); intro gb257 hg w4 hbox hb; have n0_ := Aside0.mk (below_step (by repeat (first | (with_reducible first | exact HB.out | apply below_alloc | apply pw_below_drewN | apply below_drew1) | exact HB.out)) hb); have n1_ := Aside0.mk (hbox); have n2_ := Aside0.mk ((by rw [hg]; exact (below_size (by repeat (first | (with_reducible first | exact HB.out | apply below_alloc | apply pw_below_drewN | apply below_drew1) | exact HB.out))) : w.heap.size ≤ gb257)); have n3_ := Aside0.mk ((by rw [hg]; exact (below_size (by repeat (first | (with_reducible first | exact HB.out | apply below_alloc | apply pw_below_drewN | apply below_drew1) | exact HB.out))) : w.heap.size ≤ gb257)); clear HB; have HB := n0_; have BK257 := n1_; have GW257 := n2_; have GE257 := n3_; clear n0_ n1_ n2_ n3_; clear hb hbox hg) | ((with_reducible refine gate_dst (N := 3) rfl ?_); (try (refine gate_guard (by rfl) ?_; dsimp only)); refine box_event ?hg (N := 3) ?hd (cs := #[.int .i64 a1_0, .int .i64 a1_1, .slice A1_2 l1_2.length c1_2, .slice A1_3 l1_3.length c1_3]) (t := 44) ?hr ?_; (case hd => rfl); (case hg => rfl); (case hr => first | (go_simp; done) | (go_simp; rfl)); intro gb258 hg w5 hbox hb; have n0_ := Aside0.mk (blk_below (g := gb257) (o := .cells #[.int .i64 a0_0, .int .i64 a0_1, .slice A0_2 l0_2.length c0_2, .slice A0_3 l0_3.length c0_3] 44 (0, 0)) (by (with_reducible repeat (first | refine blk_drewN ?_ _ | refine blk_drew ?_ | refine blk_alloc ?_ _)); exact BK257.out) hb); have n1_ := Aside0.mk (below_step (by repeat (first | (with_reducible first | exact HB.out | apply below_alloc | apply pw_below_drewN | apply below_drew1 | refine below_set ?_ GE257.out) | exact HB.out)) hb); have n2_ := Aside0.mk (hbox); have n3_ := Aside0.mk ((by rw [hg]; exact (below_size (by repeat (first | (with_reducible first | exact HB.out | apply below_alloc | apply pw_below_drewN | apply below_drew1 | refine below_set ?_ GE257.out) | exact HB.out))) : w.heap.size ≤ gb258)); have n4_ := Aside0.mk ((by rw [hg]; exact (below_size (by repeat (first | (with_reducible first | exact HB.out | apply below_alloc | apply pw_below_drewN | apply below_drew1 | refine below_set ?_ GE257.out) | exact HB.out))) : w.heap.size ≤ gb258)); have n5_ := Aside0.mk ((by rw [hg]; exact Nat.ne_of_lt (blk_lt (g := gb257) (o := .cells #[.int .i64 a0_0, .int .i64 a0_1, .slice A0_2 l0_2.length c0_2, .slice A0_3 l0_3.length c0_3] 44 (0, 0)) (by (with_reducible repeat (first | refine blk_drewN ?_ _ | refine blk_drew ?_ | refine blk_alloc ?_ _)); exact BK257.out)) : gb257 ≠ gb258)); have n6_ := Aside0.mk ((by rw [hg]; exact Nat.ne_of_gt (blk_lt (g := gb257) (o := .cells #[.int .i64 a0_0, .int .i64 a0_1, .slice A0_2 l0_2.length c0_2, .slice A0_3 l0_3.length c0_3] 44 (0, 0)) (by (with_reducible repeat (first | refine blk_drewN ?_ _ | refine blk_drew ?_ | refine blk_alloc ?_ _)); exact BK257.out)) : gb258 ≠ gb257)); clear BK257; clear HB; have BK257 := n0_; have HB := n1_; have BK258 := n2_; have GW258 := n3_; have GE258 := n4_; have NB257_258 := n5_; have NB258_257 := n6_; clear n0_ n1_ n2_ n3_ n4_ n5_ n6_; clear hb hbox hg)))
  (try simp only [Act.put, List.setIfInBounds_toArray, List.set_cons_zero, List.set_cons_succ])
  go_cut [34] (fun v34 wc => ∃ (kq : Nat) (x34_2 : Bool), v34 = .bool x34_2 ∧ Aside0 (affidavitref21_Same.j0 kq x34_2 a0_0 a0_1 l0_2 l0_3 a1_0 a1_1 l1_2 l1_3 = some r) ∧ Aside0 (kq ≤ k) ∧ Aside0 (wc.heap[gb257]? = some (.cells #[.int .i64 a0_0, .int .i64 a0_1, (.slice A0_2 l0_2.length c0_2), (.slice A0_3 l0_3.length c0_3)] 44 (0, 0))) ∧ Aside0 (wc.heap[gb258]? = some (.cells #[.int .i64 a1_0, .int .i64 a1_1, (.slice A1_2 l1_2.length c1_2), (.slice A1_3 l1_3.length c1_3)] 44 (0, 0))) ∧ Aside0 (Below w.heap.size w wc))
  case first =>
    have H := HC3.out
    clear HC3
    by_cases c6 : a0_0 = a1_0
    · rw [if_pos c6] at H
      have c6b0 : (a0_0 == a1_0) = true := beq_iff_eq.mpr c6
      have c6b1 : (a0_0 != a1_0) = false := bne_eq_false_iff_eq.mpr c6
      clear c6
      (first | rw [c6b0] | (simp only [i64_w, i32_w]; rw [c6b0]) | skip)
      by_cases c7 : a0_1 = a1_1
      · rw [if_pos c7] at H
        have c7b0 : (a0_1 == a1_1) = true := beq_iff_eq.mpr c7
        have c7b1 : (a0_1 != a1_1) = false := bne_eq_false_iff_eq.mpr c7
        clear c7
        replace H := Option.bind_eq_some_iff.mp H
        obtain ⟨t259, A80, H⟩ := H
        replace H : (if t259 = true then (affidavitref21_Same.j0 k ((l0_3.length : Int) != (l1_3.length : Int)) a0_0 a0_1 l0_2 l0_3 a1_0 a1_1 l1_2 l1_3) else (affidavitref21_Same.j0 k true a0_0 a0_1 l0_2 l0_3 a1_0 a1_1 l1_2 l1_3)) = some r := H
        have A8 := Aside0.mk A80
        clear A80
        by_cases c9 : t259 = true
        · subst c9
          have H1 : (affidavitref21_Same.j0 k ((l0_3.length : Int) != (l1_3.length : Int)) a0_0 a0_1 l0_2 l0_3 a1_0 a1_1 l1_2 l1_3) = some r := by rw [if_pos rfl] at H; exact H
          clear H
          have H := H1
          clear H1
          have H' := Aside0.mk H
          clear H
          have hnb10 := NB257_258.out
          have hnc10 := NB258_257.out
          have hcz11_0 : w5.cell? ⟨gb257, 0, none⟩ = some (.int .i64 a0_0) := (blk_cell BK257.out 0).trans rfl
          have hcz11_1 : w5.cell? ⟨gb257, 1, none⟩ = some (.int .i64 a0_1) := (blk_cell BK257.out 1).trans rfl
          have hcz11_2 : w5.cell? ⟨gb257, 2, none⟩ = some (.slice A0_2 l0_2.length c0_2) := (blk_cell BK257.out 2).trans rfl
          have hcz11_3 : w5.cell? ⟨gb257, 3, none⟩ = some (.slice A0_3 l0_3.length c0_3) := (blk_cell BK257.out 3).trans rfl
          have hfz11_0 := blk_frozen BK257.out 0
          have hfz11_1 := blk_frozen BK257.out 1
          have hfz11_2 := blk_frozen BK257.out 2
          have hfz11_3 := blk_frozen BK257.out 3
          have hcz12_0 : w5.cell? ⟨gb258, 0, none⟩ = some (.int .i64 a1_0) := (blk_cell BK258.out 0).trans rfl
          have hcz12_1 : w5.cell? ⟨gb258, 1, none⟩ = some (.int .i64 a1_1) := (blk_cell BK258.out 1).trans rfl
          have hcz12_2 : w5.cell? ⟨gb258, 2, none⟩ = some (.slice A1_2 l1_2.length c1_2) := (blk_cell BK258.out 2).trans rfl
          have hcz12_3 : w5.cell? ⟨gb258, 3, none⟩ = some (.slice A1_3 l1_3.length c1_3) := (blk_cell BK258.out 3).trans rfl
          have hfz12_0 := blk_frozen BK258.out 0
          have hfz12_1 := blk_frozen BK258.out 1
          have hfz12_2 := blk_frozen BK258.out 2
          have hfz12_3 := blk_frozen BK258.out 3
          go_wp2_with (first | (go_at_call 17; (with_reducible refine (affidavitref20_Same.calls k _ _ l0_2 _ _ l1_2 true _ ?side1 ?side2 ?side3 ?side4 A8.out).mono ?_); (case side1 => repeat (first | exact (Kd.C_below HR0_2.out HB.out) | (with_reducible refine Kd.C_alloc ?_ _) | (with_reducible refine Kd.C_drewN ?_ _) | (with_reducible refine Kd.C_drew ?_))); (case side2 => exact HC0_2.out); (case side3 => repeat (first | exact (Kd.C_below HR1_2.out HB.out) | (with_reducible refine Kd.C_alloc ?_ _) | (with_reducible refine Kd.C_drewN ?_ _) | (with_reducible refine Kd.C_drew ?_))); (case side4 => exact HC1_2.out); rintro e w13 ⟨rfl, hb⟩; have n0_ := Aside0.mk (blk_below (g := gb257) (o := .cells #[.int .i64 a0_0, .int .i64 a0_1, .slice A0_2 l0_2.length c0_2, .slice A0_3 l0_3.length c0_3] 44 (0, 0)) (by (with_reducible repeat (first | refine blk_drewN ?_ _ | refine blk_drew ?_ | refine blk_alloc ?_ _)); exact BK257.out) hb); have n1_ := Aside0.mk (blk_below (g := gb258) (o := .cells #[.int .i64 a1_0, .int .i64 a1_1, .slice A1_2 l1_2.length c1_2, .slice A1_3 l1_3.length c1_3] 44 (0, 0)) (by (with_reducible repeat (first | refine blk_drewN ?_ _ | refine blk_drew ?_ | refine blk_alloc ?_ _)); exact BK258.out) hb); have n2_ := Aside0.mk (below_step (by repeat (first | (with_reducible first | exact HB.out | apply below_alloc | apply pw_below_drewN | apply below_drew1 | refine below_set ?_ GE257.out | refine below_set ?_ GE258.out) | exact HB.out)) hb); clear BK257; clear BK258; clear HB; have BK257 := n0_; have BK258 := n1_; have HB := n2_; clear n0_ n1_ n2_; (try clear hb); (try clear hb2); (try clear hk); (try clear hi); have hcz14_0 : w13.cell? ⟨gb257, 0, none⟩ = some (.int .i64 a0_0) := (blk_cell BK257.out 0).trans rfl; have hcz14_1 : w13.cell? ⟨gb257, 1, none⟩ = some (.int .i64 a0_1) := (blk_cell BK257.out 1).trans rfl; have hcz14_2 : w13.cell? ⟨gb257, 2, none⟩ = some (.slice A0_2 l0_2.length c0_2) := (blk_cell BK257.out 2).trans rfl; have hcz14_3 : w13.cell? ⟨gb257, 3, none⟩ = some (.slice A0_3 l0_3.length c0_3) := (blk_cell BK257.out 3).trans rfl; have hfz14_0 := blk_frozen BK257.out 0; have hfz14_1 := blk_frozen BK257.out 1; have hfz14_2 := blk_frozen BK257.out 2; have hfz14_3 := blk_frozen BK257.out 3; have hcz15_0 : w13.cell? ⟨gb258, 0, none⟩ = some (.int .i64 a1_0) := (blk_cell BK258.out 0).trans rfl; have hcz15_1 : w13.cell? ⟨gb258, 1, none⟩ = some (.int .i64 a1_1) := (blk_cell BK258.out 1).trans rfl; have hcz15_2 : w13.cell? ⟨gb258, 2, none⟩ = some (.slice A1_2 l1_2.length c1_2) := (blk_cell BK258.out 2).trans rfl; have hcz15_3 : w13.cell? ⟨gb258, 3, none⟩ = some (.slice A1_3 l1_3.length c1_3) := (blk_cell BK258.out 3).trans rfl; have hfz15_0 := blk_frozen BK258.out 0; have hfz15_1 := blk_frozen BK258.out 1; have hfz15_2 := blk_frozen BK258.out 2; have hfz15_3 := blk_frozen BK258.out 3))
          repeat (go_quiet (first | (go_at_call 17; (with_reducible refine (affidavitref20_Same.calls k _ _ l0_2 _ _ l1_2 true _ ?side1 ?side2 ?side3 ?side4 A8.out).mono ?_); (case side1 => repeat (first | exact (Kd.C_below HR0_2.out HB.out) | (with_reducible refine Kd.C_alloc ?_ _) | (with_reducible refine Kd.C_drewN ?_ _) | (with_reducible refine Kd.C_drew ?_))); (case side2 => exact HC0_2.out); (case side3 => repeat (first | exact (Kd.C_below HR1_2.out HB.out) | (with_reducible refine Kd.C_alloc ?_ _) | (with_reducible refine Kd.C_drewN ?_ _) | (with_reducible refine Kd.C_drew ?_))); (case side4 => exact HC1_2.out); rintro e w13 ⟨rfl, hb⟩; have n0_ := Aside0.mk (blk_below (g := gb257) (o := .cells #[.int .i64 a0_0, .int .i64 a0_1, .slice A0_2 l0_2.length c0_2, .slice A0_3 l0_3.length c0_3] 44 (0, 0)) (by (with_reducible repeat (first | refine blk_drewN ?_ _ | refine blk_drew ?_ | refine blk_alloc ?_ _)); exact BK257.out) hb); have n1_ := Aside0.mk (blk_below (g := gb258) (o := .cells #[.int .i64 a1_0, .int .i64 a1_1, .slice A1_2 l1_2.length c1_2, .slice A1_3 l1_3.length c1_3] 44 (0, 0)) (by (with_reducible repeat (first | refine blk_drewN ?_ _ | refine blk_drew ?_ | refine blk_alloc ?_ _)); exact BK258.out) hb); have n2_ := Aside0.mk (below_step (by repeat (first | (with_reducible first | exact HB.out | apply below_alloc | apply pw_below_drewN | apply below_drew1 | refine below_set ?_ GE257.out | refine below_set ?_ GE258.out) | exact HB.out)) hb); clear BK257; clear BK258; clear HB; have BK257 := n0_; have BK258 := n1_; have HB := n2_; clear n0_ n1_ n2_; (try clear hb); (try clear hb2); (try clear hk); (try clear hi); have hcz14_0 : w13.cell? ⟨gb257, 0, none⟩ = some (.int .i64 a0_0) := (blk_cell BK257.out 0).trans rfl; have hcz14_1 : w13.cell? ⟨gb257, 1, none⟩ = some (.int .i64 a0_1) := (blk_cell BK257.out 1).trans rfl; have hcz14_2 : w13.cell? ⟨gb257, 2, none⟩ = some (.slice A0_2 l0_2.length c0_2) := (blk_cell BK257.out 2).trans rfl; have hcz14_3 : w13.cell? ⟨gb257, 3, none⟩ = some (.slice A0_3 l0_3.length c0_3) := (blk_cell BK257.out 3).trans rfl; have hfz14_0 := blk_frozen BK257.out 0; have hfz14_1 := blk_frozen BK257.out 1; have hfz14_2 := blk_frozen BK257.out 2; have hfz14_3 := blk_frozen BK257.out 3; have hcz15_0 : w13.cell? ⟨gb258, 0, none⟩ = some (.int .i64 a1_0) := (blk_cell BK258.out 0).trans rfl; have hcz15_1 : w13.cell? ⟨gb258, 1, none⟩ = some (.int .i64 a1_1) := (blk_cell BK258.out 1).trans rfl; have hcz15_2 : w13.cell? ⟨gb258, 2, none⟩ = some (.slice A1_2 l1_2.length c1_2) := (blk_cell BK258.out 2).trans rfl; have hcz15_3 : w13.cell? ⟨gb258, 3, none⟩ = some (.slice A1_3 l1_3.length c1_3) := (blk_cell BK258.out 3).trans rfl; have hfz15_0 := blk_frozen BK258.out 0; have hfz15_1 := blk_frozen BK258.out 1; have hfz15_2 := blk_frozen BK258.out 2; have hfz15_3 := blk_frozen BK258.out 3)); try go_wp2_with (first | (go_at_call 17; (with_reducible refine (affidavitref20_Same.calls k _ _ l0_2 _ _ l1_2 true _ ?side1 ?side2 ?side3 ?side4 A8.out).mono ?_); (case side1 => repeat (first | exact (Kd.C_below HR0_2.out HB.out) | (with_reducible refine Kd.C_alloc ?_ _) | (with_reducible refine Kd.C_drewN ?_ _) | (with_reducible refine Kd.C_drew ?_))); (case side2 => exact HC0_2.out); (case side3 => repeat (first | exact (Kd.C_below HR1_2.out HB.out) | (with_reducible refine Kd.C_alloc ?_ _) | (with_reducible refine Kd.C_drewN ?_ _) | (with_reducible refine Kd.C_drew ?_))); (case side4 => exact HC1_2.out); rintro e w13 ⟨rfl, hb⟩; have n0_ := Aside0.mk (blk_below (g := gb257) (o := .cells #[.int .i64 a0_0, .int .i64 a0_1, .slice A0_2 l0_2.length c0_2, .slice A0_3 l0_3.length c0_3] 44 (0, 0)) (by (with_reducible repeat (first | refine blk_drewN ?_ _ | refine blk_drew ?_ | refine blk_alloc ?_ _)); exact BK257.out) hb); have n1_ := Aside0.mk (blk_below (g := gb258) (o := .cells #[.int .i64 a1_0, .int .i64 a1_1, .slice A1_2 l1_2.length c1_2, .slice A1_3 l1_3.length c1_3] 44 (0, 0)) (by (with_reducible repeat (first | refine blk_drewN ?_ _ | refine blk_drew ?_ | refine blk_alloc ?_ _)); exact BK258.out) hb); have n2_ := Aside0.mk (below_step (by repeat (first | (with_reducible first | exact HB.out | apply below_alloc | apply pw_below_drewN | apply below_drew1 | refine below_set ?_ GE257.out | refine below_set ?_ GE258.out) | exact HB.out)) hb); clear BK257; clear BK258; clear HB; have BK257 := n0_; have BK258 := n1_; have HB := n2_; clear n0_ n1_ n2_; (try clear hb); (try clear hb2); (try clear hk); (try clear hi); have hcz14_0 : w13.cell? ⟨gb257, 0, none⟩ = some (.int .i64 a0_0) := (blk_cell BK257.out 0).trans rfl; have hcz14_1 : w13.cell? ⟨gb257, 1, none⟩ = some (.int .i64 a0_1) := (blk_cell BK257.out 1).trans rfl; have hcz14_2 : w13.cell? ⟨gb257, 2, none⟩ = some (.slice A0_2 l0_2.length c0_2) := (blk_cell BK257.out 2).trans rfl; have hcz14_3 : w13.cell? ⟨gb257, 3, none⟩ = some (.slice A0_3 l0_3.length c0_3) := (blk_cell BK257.out 3).trans rfl; have hfz14_0 := blk_frozen BK257.out 0; have hfz14_1 := blk_frozen BK257.out 1; have hfz14_2 := blk_frozen BK257.out 2; have hfz14_3 := blk_frozen BK257.out 3; have hcz15_0 : w13.cell? ⟨gb258, 0, none⟩ = some (.int .i64 a1_0) := (blk_cell BK258.out 0).trans rfl; have hcz15_1 : w13.cell? ⟨gb258, 1, none⟩ = some (.int .i64 a1_1) := (blk_cell BK258.out 1).trans rfl; have hcz15_2 : w13.cell? ⟨gb258, 2, none⟩ = some (.slice A1_2 l1_2.length c1_2) := (blk_cell BK258.out 2).trans rfl; have hcz15_3 : w13.cell? ⟨gb258, 3, none⟩ = some (.slice A1_3 l1_3.length c1_3) := (blk_cell BK258.out 3).trans rfl; have hfz15_0 := blk_frozen BK258.out 0; have hfz15_1 := blk_frozen BK258.out 1; have hfz15_2 := blk_frozen BK258.out 2; have hfz15_3 := blk_frozen BK258.out 3)))
          go_meet
          case rel => exact ⟨_, (((l0_3.length : Int) != (l1_3.length : Int))), (by first | rfl | (simp; done) | (simp [*]; done)), H', ⟨by first | omega | exact Nat.le_refl _⟩, ⟨by (with_reducible repeat (first | refine blk_drewN ?_ _ | refine blk_drew ?_ | refine blk_alloc ?_ _)); exact BK257.out⟩, ⟨by (with_reducible repeat (first | refine blk_drewN ?_ _ | refine blk_drew ?_ | refine blk_alloc ?_ _)); exact BK258.out⟩, ⟨by repeat (first | (with_reducible first | exact HB.out | apply below_alloc | apply pw_below_drewN | apply below_drew1 | refine below_set ?_ GE257.out | refine below_set ?_ GE258.out) | exact HB.out)⟩⟩
        · replace c9 := Bool.eq_false_iff.mpr c9
          subst c9
          have H1 : (affidavitref21_Same.j0 k true a0_0 a0_1 l0_2 l0_3 a1_0 a1_1 l1_2 l1_3) = some r := by rw [if_neg (show ¬ (false = true) by decide)] at H; exact H
          clear H
          have H := H1
          clear H1
          have H' := Aside0.mk H
          clear H
          have hnb16 := NB257_258.out
          have hnc16 := NB258_257.out
          have hcz17_0 : w5.cell? ⟨gb257, 0, none⟩ = some (.int .i64 a0_0) := (blk_cell BK257.out 0).trans rfl
          have hcz17_1 : w5.cell? ⟨gb257, 1, none⟩ = some (.int .i64 a0_1) := (blk_cell BK257.out 1).trans rfl
          have hcz17_2 : w5.cell? ⟨gb257, 2, none⟩ = some (.slice A0_2 l0_2.length c0_2) := (blk_cell BK257.out 2).trans rfl
          have hcz17_3 : w5.cell? ⟨gb257, 3, none⟩ = some (.slice A0_3 l0_3.length c0_3) := (blk_cell BK257.out 3).trans rfl
          have hfz17_0 := blk_frozen BK257.out 0
          have hfz17_1 := blk_frozen BK257.out 1
          have hfz17_2 := blk_frozen BK257.out 2
          have hfz17_3 := blk_frozen BK257.out 3
          have hcz18_0 : w5.cell? ⟨gb258, 0, none⟩ = some (.int .i64 a1_0) := (blk_cell BK258.out 0).trans rfl
          have hcz18_1 : w5.cell? ⟨gb258, 1, none⟩ = some (.int .i64 a1_1) := (blk_cell BK258.out 1).trans rfl
          have hcz18_2 : w5.cell? ⟨gb258, 2, none⟩ = some (.slice A1_2 l1_2.length c1_2) := (blk_cell BK258.out 2).trans rfl
          have hcz18_3 : w5.cell? ⟨gb258, 3, none⟩ = some (.slice A1_3 l1_3.length c1_3) := (blk_cell BK258.out 3).trans rfl
          have hfz18_0 := blk_frozen BK258.out 0
          have hfz18_1 := blk_frozen BK258.out 1
          have hfz18_2 := blk_frozen BK258.out 2
          have hfz18_3 := blk_frozen BK258.out 3
          go_wp2_with (first | (go_at_call 17; (with_reducible refine (affidavitref20_Same.calls k _ _ l0_2 _ _ l1_2 false _ ?side1 ?side2 ?side3 ?side4 A8.out).mono ?_); (case side1 => repeat (first | exact (Kd.C_below HR0_2.out HB.out) | (with_reducible refine Kd.C_alloc ?_ _) | (with_reducible refine Kd.C_drewN ?_ _) | (with_reducible refine Kd.C_drew ?_))); (case side2 => exact HC0_2.out); (case side3 => repeat (first | exact (Kd.C_below HR1_2.out HB.out) | (with_reducible refine Kd.C_alloc ?_ _) | (with_reducible refine Kd.C_drewN ?_ _) | (with_reducible refine Kd.C_drew ?_))); (case side4 => exact HC1_2.out); rintro e w19 ⟨rfl, hb⟩; have n0_ := Aside0.mk (blk_below (g := gb257) (o := .cells #[.int .i64 a0_0, .int .i64 a0_1, .slice A0_2 l0_2.length c0_2, .slice A0_3 l0_3.length c0_3] 44 (0, 0)) (by (with_reducible repeat (first | refine blk_drewN ?_ _ | refine blk_drew ?_ | refine blk_alloc ?_ _)); exact BK257.out) hb); have n1_ := Aside0.mk (blk_below (g := gb258) (o := .cells #[.int .i64 a1_0, .int .i64 a1_1, .slice A1_2 l1_2.length c1_2, .slice A1_3 l1_3.length c1_3] 44 (0, 0)) (by (with_reducible repeat (first | refine blk_drewN ?_ _ | refine blk_drew ?_ | refine blk_alloc ?_ _)); exact BK258.out) hb); have n2_ := Aside0.mk (below_step (by repeat (first | (with_reducible first | exact HB.out | apply below_alloc | apply pw_below_drewN | apply below_drew1 | refine below_set ?_ GE257.out | refine below_set ?_ GE258.out) | exact HB.out)) hb); clear BK257; clear BK258; clear HB; have BK257 := n0_; have BK258 := n1_; have HB := n2_; clear n0_ n1_ n2_; (try clear hb); (try clear hb2); (try clear hk); (try clear hi)))
          repeat (go_quiet (first | (go_at_call 17; (with_reducible refine (affidavitref20_Same.calls k _ _ l0_2 _ _ l1_2 false _ ?side1 ?side2 ?side3 ?side4 A8.out).mono ?_); (case side1 => repeat (first | exact (Kd.C_below HR0_2.out HB.out) | (with_reducible refine Kd.C_alloc ?_ _) | (with_reducible refine Kd.C_drewN ?_ _) | (with_reducible refine Kd.C_drew ?_))); (case side2 => exact HC0_2.out); (case side3 => repeat (first | exact (Kd.C_below HR1_2.out HB.out) | (with_reducible refine Kd.C_alloc ?_ _) | (with_reducible refine Kd.C_drewN ?_ _) | (with_reducible refine Kd.C_drew ?_))); (case side4 => exact HC1_2.out); rintro e w19 ⟨rfl, hb⟩; have n0_ := Aside0.mk (blk_below (g := gb257) (o := .cells #[.int .i64 a0_0, .int .i64 a0_1, .slice A0_2 l0_2.length c0_2, .slice A0_3 l0_3.length c0_3] 44 (0, 0)) (by (with_reducible repeat (first | refine blk_drewN ?_ _ | refine blk_drew ?_ | refine blk_alloc ?_ _)); exact BK257.out) hb); have n1_ := Aside0.mk (blk_below (g := gb258) (o := .cells #[.int .i64 a1_0, .int .i64 a1_1, .slice A1_2 l1_2.length c1_2, .slice A1_3 l1_3.length c1_3] 44 (0, 0)) (by (with_reducible repeat (first | refine blk_drewN ?_ _ | refine blk_drew ?_ | refine blk_alloc ?_ _)); exact BK258.out) hb); have n2_ := Aside0.mk (below_step (by repeat (first | (with_reducible first | exact HB.out | apply below_alloc | apply pw_below_drewN | apply below_drew1 | refine below_set ?_ GE257.out | refine below_set ?_ GE258.out) | exact HB.out)) hb); clear BK257; clear BK258; clear HB; have BK257 := n0_; have BK258 := n1_; have HB := n2_; clear n0_ n1_ n2_; (try clear hb); (try clear hb2); (try clear hk); (try clear hi))); try go_wp2_with (first | (go_at_call 17; (with_reducible refine (affidavitref20_Same.calls k _ _ l0_2 _ _ l1_2 false _ ?side1 ?side2 ?side3 ?side4 A8.out).mono ?_); (case side1 => repeat (first | exact (Kd.C_below HR0_2.out HB.out) | (with_reducible refine Kd.C_alloc ?_ _) | (with_reducible refine Kd.C_drewN ?_ _) | (with_reducible refine Kd.C_drew ?_))); (case side2 => exact HC0_2.out); (case side3 => repeat (first | exact (Kd.C_below HR1_2.out HB.out) | (with_reducible refine Kd.C_alloc ?_ _) | (with_reducible refine Kd.C_drewN ?_ _) | (with_reducible refine Kd.C_drew ?_))); (case side4 => exact HC1_2.out); rintro e w19 ⟨rfl, hb⟩; have n0_ := Aside0.mk (blk_below (g := gb257) (o := .cells #[.int .i64 a0_0, .int .i64 a0_1, .slice A0_2 l0_2.length c0_2, .slice A0_3 l0_3.length c0_3] 44 (0, 0)) (by (with_reducible repeat (first | refine blk_drewN ?_ _ | refine blk_drew ?_ | refine blk_alloc ?_ _)); exact BK257.out) hb); have n1_ := Aside0.mk (blk_below (g := gb258) (o := .cells #[.int .i64 a1_0, .int .i64 a1_1, .slice A1_2 l1_2.length c1_2, .slice A1_3 l1_3.length c1_3] 44 (0, 0)) (by (with_reducible repeat (first | refine blk_drewN ?_ _ | refine blk_drew ?_ | refine blk_alloc ?_ _)); exact BK258.out) hb); have n2_ := Aside0.mk (below_step (by repeat (first | (with_reducible first | exact HB.out | apply below_alloc | apply pw_below_drewN | apply below_drew1 | refine below_set ?_ GE257.out | refine below_set ?_ GE258.out) | exact HB.out)) hb); clear BK257; clear BK258; clear HB; have BK257 := n0_; have BK258 := n1_; have HB := n2_; clear n0_ n1_ n2_; (try clear hb); (try clear hb2); (try clear hk); (try clear hi))))
          go_meet
          case rel => exact ⟨_, (true), (by first | rfl | (simp; done) | (simp [*]; done)), H', ⟨by first | omega | exact Nat.le_refl _⟩, ⟨by (with_reducible repeat (first | refine blk_drewN ?_ _ | refine blk_drew ?_ | refine blk_alloc ?_ _)); exact BK257.out⟩, ⟨by (with_reducible repeat (first | refine blk_drewN ?_ _ | refine blk_drew ?_ | refine blk_alloc ?_ _)); exact BK258.out⟩, ⟨by repeat (first | (with_reducible first | exact HB.out | apply below_alloc | apply pw_below_drewN | apply below_drew1 | refine below_set ?_ GE257.out | refine below_set ?_ GE258.out) | exact HB.out)⟩⟩
      · rw [if_neg c7] at H
        have c7b0 : (a0_1 == a1_1) = false := beq_eq_false_iff_ne.mpr c7
        have c7b1 : (a0_1 != a1_1) = true := bne_iff_ne.mpr c7
        have H' := Aside0.mk H
        clear H
        have hnb20 := NB257_258.out
        have hnc20 := NB258_257.out
        have hcz21_0 : w5.cell? ⟨gb257, 0, none⟩ = some (.int .i64 a0_0) := (blk_cell BK257.out 0).trans rfl
        have hcz21_1 : w5.cell? ⟨gb257, 1, none⟩ = some (.int .i64 a0_1) := (blk_cell BK257.out 1).trans rfl
        have hcz21_2 : w5.cell? ⟨gb257, 2, none⟩ = some (.slice A0_2 l0_2.length c0_2) := (blk_cell BK257.out 2).trans rfl
        have hcz21_3 : w5.cell? ⟨gb257, 3, none⟩ = some (.slice A0_3 l0_3.length c0_3) := (blk_cell BK257.out 3).trans rfl
        have hfz21_0 := blk_frozen BK257.out 0
        have hfz21_1 := blk_frozen BK257.out 1
        have hfz21_2 := blk_frozen BK257.out 2
        have hfz21_3 := blk_frozen BK257.out 3
        have hcz22_0 : w5.cell? ⟨gb258, 0, none⟩ = some (.int .i64 a1_0) := (blk_cell BK258.out 0).trans rfl
        have hcz22_1 : w5.cell? ⟨gb258, 1, none⟩ = some (.int .i64 a1_1) := (blk_cell BK258.out 1).trans rfl
        have hcz22_2 : w5.cell? ⟨gb258, 2, none⟩ = some (.slice A1_2 l1_2.length c1_2) := (blk_cell BK258.out 2).trans rfl
        have hcz22_3 : w5.cell? ⟨gb258, 3, none⟩ = some (.slice A1_3 l1_3.length c1_3) := (blk_cell BK258.out 3).trans rfl
        have hfz22_0 := blk_frozen BK258.out 0
        have hfz22_1 := blk_frozen BK258.out 1
        have hfz22_2 := blk_frozen BK258.out 2
        have hfz22_3 := blk_frozen BK258.out 3
        go_wp2
        repeat (go_quiet (fail); try go_wp2)
        go_meet
        case rel => exact ⟨_, (true), (by first | rfl | (simp; done) | (simp [*]; done)), H', ⟨by first | omega | exact Nat.le_refl _⟩, ⟨by (with_reducible repeat (first | refine blk_drewN ?_ _ | refine blk_drew ?_ | refine blk_alloc ?_ _)); exact BK257.out⟩, ⟨by (with_reducible repeat (first | refine blk_drewN ?_ _ | refine blk_drew ?_ | refine blk_alloc ?_ _)); exact BK258.out⟩, ⟨by repeat (first | (with_reducible first | exact HB.out | apply below_alloc | apply pw_below_drewN | apply below_drew1 | refine below_set ?_ GE257.out | refine below_set ?_ GE258.out) | exact HB.out)⟩⟩
    · rw [if_neg c6] at H
      have c6b0 : (a0_0 == a1_0) = false := beq_eq_false_iff_ne.mpr c6
      have c6b1 : (a0_0 != a1_0) = true := bne_iff_ne.mpr c6
      (first | rw [c6b0] | (simp only [i64_w, i32_w]; rw [c6b0]) | skip)
      have H' := Aside0.mk H
      clear H
      have hnb23 := NB257_258.out
      have hnc23 := NB258_257.out
      have hcz24_0 : w5.cell? ⟨gb257, 0, none⟩ = some (.int .i64 a0_0) := (blk_cell BK257.out 0).trans rfl
      have hcz24_1 : w5.cell? ⟨gb257, 1, none⟩ = some (.int .i64 a0_1) := (blk_cell BK257.out 1).trans rfl
      have hcz24_2 : w5.cell? ⟨gb257, 2, none⟩ = some (.slice A0_2 l0_2.length c0_2) := (blk_cell BK257.out 2).trans rfl
      have hcz24_3 : w5.cell? ⟨gb257, 3, none⟩ = some (.slice A0_3 l0_3.length c0_3) := (blk_cell BK257.out 3).trans rfl
      have hfz24_0 := blk_frozen BK257.out 0
      have hfz24_1 := blk_frozen BK257.out 1
      have hfz24_2 := blk_frozen BK257.out 2
      have hfz24_3 := blk_frozen BK257.out 3
      have hcz25_0 : w5.cell? ⟨gb258, 0, none⟩ = some (.int .i64 a1_0) := (blk_cell BK258.out 0).trans rfl
      have hcz25_1 : w5.cell? ⟨gb258, 1, none⟩ = some (.int .i64 a1_1) := (blk_cell BK258.out 1).trans rfl
      have hcz25_2 : w5.cell? ⟨gb258, 2, none⟩ = some (.slice A1_2 l1_2.length c1_2) := (blk_cell BK258.out 2).trans rfl
      have hcz25_3 : w5.cell? ⟨gb258, 3, none⟩ = some (.slice A1_3 l1_3.length c1_3) := (blk_cell BK258.out 3).trans rfl
      have hfz25_0 := blk_frozen BK258.out 0
      have hfz25_1 := blk_frozen BK258.out 1
      have hfz25_2 := blk_frozen BK258.out 2
      have hfz25_3 := blk_frozen BK258.out 3
      go_wp2
      repeat (go_quiet (fail); try go_wp2)
      go_meet
      case rel => exact ⟨_, (true), (by first | rfl | (simp; done) | (simp [*]; done)), H', ⟨by first | omega | exact Nat.le_refl _⟩, ⟨by (with_reducible repeat (first | refine blk_drewN ?_ _ | refine blk_drew ?_ | refine blk_alloc ?_ _)); exact BK257.out⟩, ⟨by (with_reducible repeat (first | refine blk_drewN ?_ _ | refine blk_drew ?_ | refine blk_alloc ?_ _)); exact BK258.out⟩, ⟨by repeat (first | (with_reducible first | exact HB.out | apply below_alloc | apply pw_below_drewN | apply below_drew1 | refine below_set ?_ GE257.out | refine below_set ?_ GE258.out) | exact HB.out)⟩⟩
  case rest =>
    clear HC3
    try clear c1
    try clear c2
    try clear p2
    try clear c6
    try clear c6b0
    try clear c6b1
    try clear c7
    try clear c7b0
    try clear c7b1
    try clear c9
    try clear c10
    try clear c16
    try clear c20
    try clear c23
    try clear hcz11_0
    try clear hcz11_1
    try clear hcz11_2
    try clear hcz11_3
    try clear hcz12_0
    try clear hcz12_1
    try clear hcz12_2
    try clear hcz12_3
    try clear hcz14_0
    try clear hcz14_1
    try clear hcz14_2
    try clear hcz14_3
    try clear hcz15_0
    try clear hcz15_1
    try clear hcz15_2
    try clear hcz15_3
    try clear hcz17_0
    try clear hcz17_1
    try clear hcz17_2
    try clear hcz17_3
    try clear hcz18_0
    try clear hcz18_1
    try clear hcz18_2
    try clear hcz18_3
    try clear hcz21_0
    try clear hcz21_1
    try clear hcz21_2
    try clear hcz21_3
    try clear hcz22_0
    try clear hcz22_1
    try clear hcz22_2
    try clear hcz22_3
    try clear hcz24_0
    try clear hcz24_1
    try clear hcz24_2
    try clear hcz24_3
    try clear hcz25_0
    try clear hcz25_1
    try clear hcz25_2
    try clear hcz25_3
    try clear hfz11_0
    try clear hfz11_1
    try clear hfz11_2
    try clear hfz11_3
    try clear hfz12_0
    try clear hfz12_1
    try clear hfz12_2
    try clear hfz12_3
    try clear hfz14_0
    try clear hfz14_1
    try clear hfz14_2
    try clear hfz14_3
    try clear hfz15_0
    try clear hfz15_1
    try clear hfz15_2
    try clear hfz15_3
    try clear hfz17_0
    try clear hfz17_1
    try clear hfz17_2
    try clear hfz17_3
    try clear hfz18_0
    try clear hfz18_1
    try clear hfz18_2
    try clear hfz18_3
    try clear hfz21_0
    try clear hfz21_1
    try clear hfz21_2
    try clear hfz21_3
    try clear hfz22_0
    try clear hfz22_1
    try clear hfz22_2
    try clear hfz22_3
    try clear hfz24_0
    try clear hfz24_1
    try clear hfz24_2
    try clear hfz24_3
    try clear hfz25_0
    try clear hfz25_1
    try clear hfz25_2
    try clear hfz25_3
    obtain ⟨kq, x34_2, rfl, HA, HJ2, BK257, BK258, HB⟩ := hcut
    cases kq with
    | zero => exact absurd HA.out (by simp [affidavitref21_Same.j0])
    | succ kj2 =>
      have H := HA.out
      clear HA
      simp only [affidavitref21_Same.j0] at H
      by_cases c26 : x34_2 = true
      · subst c26
        have H1 : (some false) = some r := by rw [if_pos rfl] at H; exact H
        clear H
        have H := H1
        clear H1
        obtain rfl := Option.some.inj H
        go_wp2
        repeat (go_quiet (fail); try go_wp2)
        go_ret
        exact ⟨by first | rfl | (simp [errW_none, errW_some] <;> rfl) | (simp [*, errW_none, errW_some] <;> rfl), by repeat (first | (with_reducible first | exact HB.out | apply below_alloc | apply pw_below_drewN | apply below_drew1 | refine below_set ?_ GE257.out | refine below_set ?_ GE258.out) | exact HB.out)⟩
      · replace c26 := Bool.eq_false_iff.mpr c26
        subst c26
        have H1 : (affidavitref21_Same.l0 kj2 0 a0_0 a0_1 l0_2 l0_3 a1_0 a1_1 l1_2 l1_3) = some r := by rw [if_neg (show ¬ (false = true) by decide)] at H; exact H
        clear H
        have H := H1
        clear H1
        have H' := Aside0.mk H
        clear H
        go_wp2
        repeat (go_quiet (fail); try go_wp2)
        go_loopg [5] kj2 (fun kq v5 w' => ∃ (x5_2 : Int), v5 = .int .i64 x5_2 ∧ Aside0 (affidavitref21_Same.l0 kq x5_2 a0_0 a0_1 l0_2 l0_3 a1_0 a1_1 l1_2 l1_3 = some r) ∧ Aside0 (kq ≤ kj2) ∧ Aside0 (w'.heap[gb257]? = some (.cells #[.int .i64 a0_0, .int .i64 a0_1, (.slice A0_2 l0_2.length c0_2), (.slice A0_3 l0_3.length c0_3)] 44 (0, 0))) ∧ Aside0 (w'.heap[gb258]? = some (.cells #[.int .i64 a1_0, .int .i64 a1_1, (.slice A1_2 l1_2.length c1_2), (.slice A1_3 l1_3.length c1_3)] 44 (0, 0))) ∧ Aside0 (Below w.heap.size w w'))
        case atStart => exact ⟨(0), (by first | rfl | (simp; done) | (simp [*]; done)), H', ⟨Nat.le_refl _⟩, ⟨by (with_reducible repeat (first | refine blk_drewN ?_ _ | refine blk_drew ?_ | refine blk_alloc ?_ _)); exact BK257.out⟩, ⟨by (with_reducible repeat (first | refine blk_drewN ?_ _ | refine blk_drew ?_ | refine blk_alloc ?_ _)); exact BK258.out⟩, ⟨by repeat (first | (with_reducible first | exact HB.out | apply below_alloc | apply pw_below_drewN | apply below_drew1 | refine below_set ?_ GE257.out | refine below_set ?_ GE258.out) | exact HB.out)⟩⟩
        case round =>
          clear H'
          try clear c1
          try clear c2
          try clear p2
          try clear c6
          try clear c6b0
          try clear c6b1
          try clear c7
          try clear c7b0
          try clear c7b1
          try clear c9
          try clear c10
          try clear c16
          try clear c20
          try clear c23
          try clear c26
          try clear hcz11_0
          try clear hcz11_1
          try clear hcz11_2
          try clear hcz11_3
          try clear hcz12_0
          try clear hcz12_1
          try clear hcz12_2
          try clear hcz12_3
          try clear hcz14_0
          try clear hcz14_1
          try clear hcz14_2
          try clear hcz14_3
          try clear hcz15_0
          try clear hcz15_1
          try clear hcz15_2
          try clear hcz15_3
          try clear hcz17_0
          try clear hcz17_1
          try clear hcz17_2
          try clear hcz17_3
          try clear hcz18_0
          try clear hcz18_1
          try clear hcz18_2
          try clear hcz18_3
          try clear hcz21_0
          try clear hcz21_1
          try clear hcz21_2
          try clear hcz21_3
          try clear hcz22_0
          try clear hcz22_1
          try clear hcz22_2
          try clear hcz22_3
          try clear hcz24_0
          try clear hcz24_1
          try clear hcz24_2
          try clear hcz24_3
          try clear hcz25_0
          try clear hcz25_1
          try clear hcz25_2
          try clear hcz25_3
          try clear hfz11_0
          try clear hfz11_1
          try clear hfz11_2
          try clear hfz11_3
          try clear hfz12_0
          try clear hfz12_1
          try clear hfz12_2
          try clear hfz12_3
          try clear hfz14_0
          try clear hfz14_1
          try clear hfz14_2
          try clear hfz14_3
          try clear hfz15_0
          try clear hfz15_1
          try clear hfz15_2
          try clear hfz15_3
          try clear hfz17_0
          try clear hfz17_1
          try clear hfz17_2
          try clear hfz17_3
          try clear hfz18_0
          try clear hfz18_1
          try clear hfz18_2
          try clear hfz18_3
          try clear hfz21_0
          try clear hfz21_1
          try clear hfz21_2
          try clear hfz21_3
          try clear hfz22_0
          try clear hfz22_1
          try clear hfz22_2
          try clear hfz22_3
          try clear hfz24_0
          try clear hfz24_1
          try clear hfz24_2
          try clear hfz24_3
          try clear hfz25_0
          try clear hfz25_1
          try clear hfz25_2
          try clear hfz25_3
          try clear p2
          obtain ⟨x5_2, rfl, HA, HK2, BK257, BK258, HB⟩ := hrel
          cases gk with
          | zero => exact absurd HA.out (by simp [affidavitref21_Same.l0])
          | succ k2 =>
            have H := HA.out
            clear HA
            simp only [affidavitref21_Same.l0] at H
            by_cases c27 : x5_2 < (l0_3.length : Int)
            · rw [if_pos c27] at H
              have c27b0 : decide (x5_2 < (l0_3.length : Int)) = true := decide_eq_true c27
              clear c27
              by_cases c28 : 0 ≤ x5_2
              · rw [if_pos c28] at H
                have c28b0 : decide (0 ≤ x5_2) = true := decide_eq_true c28
                clear c28
                by_cases c29 : x5_2 < (l1_3.length : Int)
                · rw [if_pos c29] at H
                  have c29b0 : decide (x5_2 < (l1_3.length : Int)) = true := decide_eq_true c29
                  clear c29
                  by_cases c30 : (!(((rd_T51 l0_3 x5_2).f0) == ((rd_T51 l1_3 x5_2).f0)) || (!(((rd_T51 l0_3 x5_2).f1) == ((rd_T51 l1_3 x5_2).f1)) || (!(((rd_T51 l0_3 x5_2).f2) == ((rd_T51 l1_3 x5_2).f2)) || (!(((rd_T51 l0_3 x5_2).f3) == ((rd_T51 l1_3 x5_2).f3)))))) = true
                  · rw [if_pos c30] at H
                    have c30b0 : (!(((rd_T51 l0_3 x5_2).f0) == ((rd_T51 l1_3 x5_2).f0)) || (!(((rd_T51 l0_3 x5_2).f1) == ((rd_T51 l1_3 x5_2).f1)) || (!(((rd_T51 l0_3 x5_2).f2) == ((rd_T51 l1_3 x5_2).f2)) || (!(((rd_T51 l0_3 x5_2).f3) == ((rd_T51 l1_3 x5_2).f3)))))) = true := c30
                    clear c30
                    obtain rfl := Option.some.inj H
                    have hnb31 := NB257_258.out
                    have hnc31 := NB258_257.out
                    have hcz32_0 : wr.cell? ⟨gb257, 0, none⟩ = some (.int .i64 a0_0) := (blk_cell BK257.out 0).trans rfl
                    have hcz32_1 : wr.cell? ⟨gb257, 1, none⟩ = some (.int .i64 a0_1) := (blk_cell BK257.out 1).trans rfl
                    have hcz32_2 : wr.cell? ⟨gb257, 2, none⟩ = some (.slice A0_2 l0_2.length c0_2) := (blk_cell BK257.out 2).trans rfl
                    have hcz32_3 : wr.cell? ⟨gb257, 3, none⟩ = some (.slice A0_3 l0_3.length c0_3) := (blk_cell BK257.out 3).trans rfl
                    have hfz32_0 := blk_frozen BK257.out 0
                    have hfz32_1 := blk_frozen BK257.out 1
                    have hfz32_2 := blk_frozen BK257.out 2
                    have hfz32_3 := blk_frozen BK257.out 3
                    have p260 : 0 ≤ (x5_2 : Int) := of_decide_eq_true (by first | (with_reducible assumption) | assumption)
                    have q260 : x5_2 < (l0_3.length : Int) := of_decide_eq_true (by first | (with_reducible assumption) | assumption)
                    obtain ⟨ad260, e260, hx260_0, hx260_1, hx260_2, hx260_3⟩ := at_T51 HR0_3.out x5_2 p260 q260
                    cases e260
                    replace hx260_0 := (HB.out.cell (World.block_lt_of_cell? w _ hx260_0)).trans hx260_0
                    replace hx260_1 := (HB.out.cell (World.block_lt_of_cell? w _ hx260_1)).trans hx260_1
                    replace hx260_2 := (HB.out.cell (World.block_lt_of_cell? w _ hx260_2)).trans hx260_2
                    replace hx260_3 := (HB.out.cell (World.block_lt_of_cell? w _ hx260_3)).trans hx260_3
                    replace p260 := eq_true p260
                    replace q260 := eq_true q260
                    have hcz33_0 : wr.cell? ⟨gb258, 0, none⟩ = some (.int .i64 a1_0) := (blk_cell BK258.out 0).trans rfl
                    have hcz33_1 : wr.cell? ⟨gb258, 1, none⟩ = some (.int .i64 a1_1) := (blk_cell BK258.out 1).trans rfl
                    have hcz33_2 : wr.cell? ⟨gb258, 2, none⟩ = some (.slice A1_2 l1_2.length c1_2) := (blk_cell BK258.out 2).trans rfl
                    have hcz33_3 : wr.cell? ⟨gb258, 3, none⟩ = some (.slice A1_3 l1_3.length c1_3) := (blk_cell BK258.out 3).trans rfl
                    have hfz33_0 := blk_frozen BK258.out 0
                    have hfz33_1 := blk_frozen BK258.out 1
                    have hfz33_2 := blk_frozen BK258.out 2
                    have hfz33_3 := blk_frozen BK258.out 3
                    have p261 : 0 ≤ (x5_2 : Int) := of_decide_eq_true (by first | (with_reducible assumption) | assumption)
                    have q261 : x5_2 < (l1_3.length : Int) := of_decide_eq_true (by first | (with_reducible assumption) | assumption)
                    obtain ⟨ad261, e261, hx261_0, hx261_1, hx261_2, hx261_3⟩ := at_T51 HR1_3.out x5_2 p261 q261
                    cases e261
                    replace hx261_0 := (HB.out.cell (World.block_lt_of_cell? w _ hx261_0)).trans hx261_0
                    replace hx261_1 := (HB.out.cell (World.block_lt_of_cell? w _ hx261_1)).trans hx261_1
                    replace hx261_2 := (HB.out.cell (World.block_lt_of_cell? w _ hx261_2)).trans hx261_2
                    replace hx261_3 := (HB.out.cell (World.block_lt_of_cell? w _ hx261_3)).trans hx261_3
                    replace p261 := eq_true p261
                    replace q261 := eq_true q261
                    go_wp2
                    repeat (go_quiet (fail); try go_wp2)
                    go_ret
                    exact ⟨by first | rfl | (simp [errW_none, errW_some] <;> rfl) | (simp [*, errW_none, errW_some] <;> rfl), by repeat (first | (with_reducible first | exact HB.out | apply below_alloc | apply pw_below_drewN | apply below_drew1 | refine below_set ?_ GE257.out | refine below_set ?_ GE258.out) | exact HB.out)⟩
                  · rw [if_neg c30] at H
                    have c30b0 : (!(((rd_T51 l0_3 x5_2).f0) == ((rd_T51 l1_3 x5_2).f0)) || (!(((rd_T51 l0_3 x5_2).f1) == ((rd_T51 l1_3 x5_2).f1)) || (!(((rd_T51 l0_3 x5_2).f2) == ((rd_T51 l1_3 x5_2).f2)) || (!(((rd_T51 l0_3 x5_2).f3) == ((rd_T51 l1_3 x5_2).f3)))))) = false := by simpa using c30
                    clear c30
                    have H' := Aside0.mk H
                    clear H
                    have hnb34 := NB257_258.out
                    have hnc34 := NB258_257.out
                    have hcz35_0 : wr.cell? ⟨gb257, 0, none⟩ = some (.int .i64 a0_0) := (blk_cell BK257.out 0).trans rfl
                    have hcz35_1 : wr.cell? ⟨gb257, 1, none⟩ = some (.int .i64 a0_1) := (blk_cell BK257.out 1).trans rfl
                    have hcz35_2 : wr.cell? ⟨gb257, 2, none⟩ = some (.slice A0_2 l0_2.length c0_2) := (blk_cell BK257.out 2).trans rfl
                    have hcz35_3 : wr.cell? ⟨gb257, 3, none⟩ = some (.slice A0_3 l0_3.length c0_3) := (blk_cell BK257.out 3).trans rfl
                    have hfz35_0 := blk_frozen BK257.out 0
                    have hfz35_1 := blk_frozen BK257.out 1
                    have hfz35_2 := blk_frozen BK257.out 2
                    have hfz35_3 := blk_frozen BK257.out 3
                    have p260 : 0 ≤ (x5_2 : Int) := of_decide_eq_true (by first | (with_reducible assumption) | assumption)
                    have q260 : x5_2 < (l0_3.length : Int) := of_decide_eq_true (by first | (with_reducible assumption) | assumption)
                    obtain ⟨ad260, e260, hx260_0, hx260_1, hx260_2, hx260_3⟩ := at_T51 HR0_3.out x5_2 p260 q260
                    cases e260
                    replace hx260_0 := (HB.out.cell (World.block_lt_of_cell? w _ hx260_0)).trans hx260_0
                    replace hx260_1 := (HB.out.cell (World.block_lt_of_cell? w _ hx260_1)).trans hx260_1
                    replace hx260_2 := (HB.out.cell (World.block_lt_of_cell? w _ hx260_2)).trans hx260_2
                    replace hx260_3 := (HB.out.cell (World.block_lt_of_cell? w _ hx260_3)).trans hx260_3
                    replace p260 := eq_true p260
                    replace q260 := eq_true q260
                    have hcz36_0 : wr.cell? ⟨gb258, 0, none⟩ = some (.int .i64 a1_0) := (blk_cell BK258.out 0).trans rfl
                    have hcz36_1 : wr.cell? ⟨gb258, 1, none⟩ = some (.int .i64 a1_1) := (blk_cell BK258.out 1).trans rfl
                    have hcz36_2 : wr.cell? ⟨gb258, 2, none⟩ = some (.slice A1_2 l1_2.length c1_2) := (blk_cell BK258.out 2).trans rfl
                    have hcz36_3 : wr.cell? ⟨gb258, 3, none⟩ = some (.slice A1_3 l1_3.length c1_3) := (blk_cell BK258.out 3).trans rfl
                    have hfz36_0 := blk_frozen BK258.out 0
                    have hfz36_1 := blk_frozen BK258.out 1
                    have hfz36_2 := blk_frozen BK258.out 2
                    have hfz36_3 := blk_frozen BK258.out 3
                    have p261 : 0 ≤ (x5_2 : Int) := of_decide_eq_true (by first | (with_reducible assumption) | assumption)
                    have q261 : x5_2 < (l1_3.length : Int) := of_decide_eq_true (by first | (with_reducible assumption) | assumption)
                    obtain ⟨ad261, e261, hx261_0, hx261_1, hx261_2, hx261_3⟩ := at_T51 HR1_3.out x5_2 p261 q261
                    cases e261
                    replace hx261_0 := (HB.out.cell (World.block_lt_of_cell? w _ hx261_0)).trans hx261_0
                    replace hx261_1 := (HB.out.cell (World.block_lt_of_cell? w _ hx261_1)).trans hx261_1
                    replace hx261_2 := (HB.out.cell (World.block_lt_of_cell? w _ hx261_2)).trans hx261_2
                    replace hx261_3 := (HB.out.cell (World.block_lt_of_cell? w _ hx261_3)).trans hx261_3
                    replace p261 := eq_true p261
                    replace q261 := eq_true q261
                    go_wp2
                    repeat (go_quiet (fail); try go_wp2)
                    go_roundg k2
                    case measure => have := HJ2.out; have := HK2.out; omega
                    case rel => exact ⟨(wrap64 (x5_2 + 1)), (by first | rfl | (simp; done) | (simp [*]; done)), H', ⟨by have := HJ2.out; have := HK2.out; omega⟩, ⟨by (with_reducible repeat (first | refine blk_drewN ?_ _ | refine blk_drew ?_ | refine blk_alloc ?_ _)); exact BK257.out⟩, ⟨by (with_reducible repeat (first | refine blk_drewN ?_ _ | refine blk_drew ?_ | refine blk_alloc ?_ _)); exact BK258.out⟩, ⟨by repeat (first | (with_reducible first | exact HB.out | apply below_alloc | apply pw_below_drewN | apply below_drew1 | refine below_set ?_ GE257.out | refine below_set ?_ GE258.out) | exact HB.out)⟩⟩
                · rw [if_neg c29] at H
                  exact absurd H (by simp)
              · rw [if_neg c28] at H
                exact absurd H (by simp)
            · rw [if_neg c27] at H
              have c27b0 : decide (x5_2 < (l0_3.length : Int)) = false := decide_eq_false c27
              clear c27
              obtain rfl := Option.some.inj H
              have hnb37 := NB257_258.out
              have hnc37 := NB258_257.out
              have hcz38_0 : wr.cell? ⟨gb257, 0, none⟩ = some (.int .i64 a0_0) := (blk_cell BK257.out 0).trans rfl
              have hcz38_1 : wr.cell? ⟨gb257, 1, none⟩ = some (.int .i64 a0_1) := (blk_cell BK257.out 1).trans rfl
              have hcz38_2 : wr.cell? ⟨gb257, 2, none⟩ = some (.slice A0_2 l0_2.length c0_2) := (blk_cell BK257.out 2).trans rfl
              have hcz38_3 : wr.cell? ⟨gb257, 3, none⟩ = some (.slice A0_3 l0_3.length c0_3) := (blk_cell BK257.out 3).trans rfl
              have hfz38_0 := blk_frozen BK257.out 0
              have hfz38_1 := blk_frozen BK257.out 1
              have hfz38_2 := blk_frozen BK257.out 2
              have hfz38_3 := blk_frozen BK257.out 3
              go_wp2
              repeat (go_quiet (fail); try go_wp2)
              go_ret
              exact ⟨by first | rfl | (simp [errW_none, errW_some] <;> rfl) | (simp [*, errW_none, errW_some] <;> rfl), by repeat (first | (with_reducible first | exact HB.out | apply below_alloc | apply pw_below_drewN | apply below_drew1 | refine below_set ?_ GE257.out | refine below_set ?_ GE258.out) | exact HB.out)⟩

-- (inside a given text)

end Go.Proofs.Ytghkngdcmlhmeaa.PQu

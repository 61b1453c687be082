/- Contracts of functions of the given program: printed out of the translation by a program of this session, with texts by hand for what the print does not take. -/
import Derived.Test.YtffcjgelcdilcaaPAllx0
import Derived.Test.YtffcjgelcdilcaaPAllx1
import Derived.Test.YtffcjgelcdilcaaPAllx5
namespace Go.Proofs.Ytffcjgelcdilcaa.PAll
open Go.RowKit Go.Proofs.YtffcjgelcdilcaaW.PrintWords Go.Proofs.YtffcjgelcdilcaaW.PrintLast Go.Proofs.YtffcjgelcdilcaaW.PrintMore
attribute [local go_sem] max2_int min2_int max_two min_two max_three min_three max_four min_four   -- for this text's walks alone
set_option linter.unusedVariables false
set_option linter.unusedSimpArgs false

/-! ### poly_each_sub: function 103 -/
def poly_each_sub.l0 : Nat → List Int → List Int → Int → List Int → Int → Int → Option (List Int)
  | 0, _, _, _, _, _, _ => none
  | k + 1, x0, x1, x2, x7, x18, x19 => if x19 < x18 then (if x19 < (x0.length : Int) then (if 0 ≤ x19 then (if x19 < (x1.length : Int) then ((poly_ring_sub.f k x2 (rd x0 x19) (rd x1 x19)).bind fun t224 => (if x19 < (x7.length : Int) then (poly_each_sub.l0 k x0 x1 x2 (x7.set (x19 : Int).toNat t224) x18 (wrap64 (x19 + 1))) else (none))) else ((poly_ring_sub.f k x2 (rd x0 x19) 0).bind fun t226 => (if x19 < (x7.length : Int) then (poly_each_sub.l0 k x0 x1 x2 (x7.set (x19 : Int).toNat t226) x18 (wrap64 (x19 + 1))) else (none)))) else (none)) else (if x19 < (x1.length : Int) then (if 0 ≤ x19 then ((poly_ring_sub.f k x2 0 (rd x1 x19)).bind fun t229 => (if x19 < (x7.length : Int) then (poly_each_sub.l0 k x0 x1 x2 (x7.set (x19 : Int).toNat t229) x18 (wrap64 (x19 + 1))) else (none))) else (none)) else ((poly_ring_sub.f k x2 0 0).bind fun t231 => (if 0 ≤ x19 then (if x19 < (x7.length : Int) then (poly_each_sub.l0 k x0 x1 x2 (x7.set (x19 : Int).toNat t231) x18 (wrap64 (x19 + 1))) else (none)) else (none))))) else ((poly_trim.f k x7).bind fun t219 => (some t219))
def poly_each_sub.f (k : Nat) (l0 : List Int) (l1 : List Int) (a2 : Int) : Option (List Int) := if 0 ≤ (mx (l0.length : Int) (l1.length : Int)) then (if (mx (l0.length : Int) (l1.length : Int) : Int).toNat ≤ 35184372088832 then ((some (List.replicate (mx (l0.length : Int) (l1.length : Int) : Int).toNat 0 : List Int)).bind fun y216 => (poly_each_sub.l0 k l0 l1 a2 y216 (y216.length : Int) 0)) else (none)) else (none)
theorem poly_each_sub.mono_l : ∀ k, (∀ y0 y1 y2 y3 y4 y5, LeO (poly_each_sub.l0 k y0 y1 y2 y3 y4 y5) (poly_each_sub.l0 (k + 1) y0 y1 y2 y3 y4 y5))
  | 0 => fun _ _ _ _ _ _ r h => by simp [poly_each_sub.l0] at h
  | k + 1 => by
    have ih0 := poly_each_sub.mono_l k
    · intro y0 y1 y2 y3 y4 y5
      unfold poly_each_sub.l0
      repeat' first
      | (with_reducible exact ih0 _ _ _ _ _ _)
      | (with_reducible exact poly_ring_sub.mono _ _ _ _)
      | (with_reducible exact poly_trim.mono _ _)
      | (with_reducible exact LeO.refl _)
      | (with_reducible exact LeO.none _)
      | (with_reducible refine LeO.ite ?_ ?_)
      | (with_reducible refine LeO.bind ?_ (fun _ => ?_))
      | exact ih0 _ _ _ _ _ _
      | exact poly_ring_sub.mono _ _ _ _
      | exact poly_trim.mono _ _
      | exact LeO.none _
      | refine LeO.ite ?_ ?_
      | refine LeO.bind ?_ (fun _ => ?_)
theorem poly_each_sub.mono : ∀ a0 a1 a2 k, LeO (poly_each_sub.f k a0 a1 a2) (poly_each_sub.f (k + 1) a0 a1 a2) := by
  intro a0 a1 a2 k
  have ih0 := poly_each_sub.mono_l k
  unfold poly_each_sub.f
  repeat' first
      | (with_reducible exact ih0 _ _ _ _ _ _)
      | (with_reducible exact poly_ring_sub.mono _ _ _ _)
      | (with_reducible exact poly_trim.mono _ _)
      | (with_reducible exact LeO.refl _)
      | (with_reducible exact LeO.none _)
      | (with_reducible refine LeO.ite ?_ ?_)
      | (with_reducible refine LeO.bind ?_ (fun _ => ?_))
      | exact ih0 _ _ _ _ _ _
      | exact poly_ring_sub.mono _ _ _ _
      | exact poly_trim.mono _ _
      | exact LeO.none _
      | refine LeO.ite ?_ ?_
      | refine LeO.bind ?_ (fun _ => ?_)
set_option maxHeartbeats 8000000 in
set_option maxRecDepth 100000 in
theorem poly_each_sub.calls (k : Nat) (A0 : Option Addr) (c0 : Nat) (l0 : List Int) (A1 : Option Addr) (c1 : Nat) (l1 : List Int) (a2 : Int) (r : List Int) (w : World) (hr0 : Kd.C (Kd.int .u64) w A0 l0.length l0) (hc0 : l0.length ≤ c0) (hr1 : Kd.C (Kd.int .u64) w A1 l1.length l1) (hc1 : l1.length ≤ c1) (h : poly_each_sub.f k l0 l1 a2 = some r) :
    Calls Try.prog 68 #[.slice A0 l0.length c0, .slice A1 l1.length c1, .func (.func 70) #[.int .u64 a2] #[]] w fun e w' => ∃ v0_ : Value, e = .returned (v0_) ∧ Kd.V (Kd.int .u64) 22 w' w.heap.size (fun k_ => (w.heap.size ≤ k_)) v0_ r ∧ Below w.heap.size w w' := by
  have HR0 := Aside0.mk hr0
  have HC0 := Aside0.mk hc0
  clear hr0 hc0
  have HR1 := Aside0.mk hr1
  have HC1 := Aside0.mk hc1
  clear hr1 hc1
  have HB := Aside0.mk (Below.refl w.heap.size w)
  have H : (if 0 ≤ (mx (l0.length : Int) (l1.length : Int)) then (if (mx (l0.length : Int) (l1.length : Int) : Int).toNat ≤ 35184372088832 then ((some (List.replicate (mx (l0.length : Int) (l1.length : Int) : Int).toNat 0 : List Int)).bind fun y216 => (poly_each_sub.l0 k l0 l1 a2 y216 (y216.length : Int) 0)) else (none)) else (none)) = some r := h
  clear h
  obtain ⟨ji4, hji4⟩ : ∃ j_ : Int, (mx (l0.length : Int) (l1.length : Int)) = j_ := ⟨_, rfl⟩
  replace H : (if 0 ≤ (ji4) then (if (ji4 : Int).toNat ≤ 35184372088832 then ((some (List.replicate (ji4 : Int).toNat 0 : List Int)).bind fun y216 => (poly_each_sub.l0 k l0 l1 a2 y216 (y216.length : Int) 0)) else (none)) else (none)) = some r := by first | (rw [hji4] at H; exact H) | (simp only [hji4] at H ⊢; exact H)
  (try (have hji4l : 0 ≤ ji4 := by (rw [← hji4]; unfold mx; (repeat' split) <;> omega)))
  (try (have hji4m : 0 ≤ ji4 := by omega))
  have hji4_ : (if (l0.length : Int) < (l1.length : Int) then (l1.length : Int) else (l0.length : Int)) = ji4 := hji4
  have hji4n : (if l0.length < l1.length then (l1.length : Int) else (l0.length : Int)) = ji4 := by rw [← hji4]; unfold mx; split <;> split <;> omega
  by_cases c5 : 0 ≤ (ji4)
  · rw [if_pos c5] at H
    have c5b0 := eq_true c5
    have c5b1 : decide (0 ≤ (ji4)) = true := decide_eq_true c5
    clear c5
    by_cases c6 : (ji4 : Int).toNat ≤ 35184372088832
    · rw [if_pos c6] at H
      have c6b0 := eq_true c6
      have c6b1 : decide ((ji4 : Int).toNat ≤ 35184372088832) = true := decide_eq_true c6
      clear c6
      obtain ⟨y216, hy216⟩ : ∃ y_ : List Int, y_ = (List.replicate (ji4 : Int).toNat 0) := ⟨_, rfl⟩
      replace H : (poly_each_sub.l0 k l0 l1 a2 y216 (y216.length : Int) 0) = some r := by first | (rw [hy216]; with_reducible exact H) | (have H2_ := (Option.bind_some _ _).symm.trans H; rw [hy216]; with_reducible exact H2_) | (have H2_ := (Option.bind_some _ _).symm.trans H; with_reducible exact H2_) | with_reducible exact H | (rw [hy216]; exact H) | exact H
      have Ny216 := Aside0.mk hy216
      clear hy216
      have H' := Aside0.mk H
      clear H
      go_enter Try.func68, Try.ntmps68
      go_wp2_with (first | ((with_reducible refine gate_dst (N := 16) rfl ?_); refine Kd.R_make (Kd.int .u64) _ 22 rfl (N := 16) rfl 23 _ _ rfl ji4 rfl rfl Try.underlying23 (.int .u64 0) 8 info22 rfl (by decide) (by omega) 0 (ok := fun _ => True) (okp := fun _ => True) rfl (fun _ hk => hk) trivial (of_decide_eq_true (by first | (with_reducible assumption) | assumption)) (Nat.le_trans (Nat.mul_le_mul_right _ (of_decide_eq_true (by first | (with_reducible assumption) | assumption) : ji4.toNat ≤ 35184372088832)) (by omega)) (Below.refl _ _) (Nat.le_refl _) ?_; intro v217 w7 ho8 hb hg_ hnew_; clear hg_ hnew_; (first | rw [← Ny216.out] at ho8 | (simp only [Int.reduceToNat] at ho8; rw [← Ny216.out] at ho8)); have n0_ := Aside0.mk (Kd.R_lower (Kd.R_newM (M := fun k_ => (w.heap.size ≤ k_)) ho8 (below_size (by repeat (first | (with_reducible first | exact HB.out | apply below_alloc | apply pw_below_drewN | apply below_drew1) | exact HB.out))) (fun k_ h_ => h_)) (below_size (by repeat (first | (with_reducible first | exact HB.out | apply below_alloc | apply pw_below_drewN | apply below_drew1) | exact HB.out)))); have n1_ := Aside0.mk (below_step (by repeat (first | (with_reducible first | exact HB.out | apply below_alloc | apply pw_below_drewN | apply below_drew1) | exact HB.out)) hb); clear HB; have HO218 := n0_; have HB := n1_; clear n0_ n1_; clear hb ho8; obtain ⟨Ao9, co9, eo9⟩ := Kd.R_slice HO218.out; subst eo9))
      go_loopg [19] k (fun kq v19 w' => ∃ (x7_1 : List Int) (x19_1 : Int), v19 = .int .i64 x19_1 ∧ Aside0 (poly_each_sub.l0 kq l0 l1 a2 x7_1 (y216.length : Int) x19_1 = some r) ∧ Aside0 (kq ≤ k) ∧ Aside0 (Kd.R (Kd.int .u64) 22 w' w.heap.size (fun k_ => (w.heap.size ≤ k_)) (.slice Ao9 y216.length co9) x7_1) ∧ Aside0 (Below w.heap.size w w'))
      case atStart => exact ⟨(y216), (0), (by first | rfl | (simp; done) | (simp [*]; done)), H', ⟨Nat.le_refl _⟩, ⟨by (with_reducible repeat (first | apply Kd.R_alloc | apply Kd.R_drewN | apply Kd.R_drew)); exact Kd.R_mono HO218.out (fun _ hk => hk.1)⟩, ⟨by repeat (first | (with_reducible first | exact HB.out | apply below_alloc | apply pw_below_drewN | apply below_drew1) | exact HB.out)⟩⟩
      case round =>
        clear H'
        try clear c1
        try clear p2
        try clear c5
        try clear c5b0
        try clear c5b1
        try clear c6
        try clear c6b0
        try clear c6b1
        obtain ⟨x7_1, x19_1, rfl, HA, HK1, HO_7, HB⟩ := hrel
        have hl7_1 := (Kd.R_reads' HO_7.out).1
        rw [hl7_1] at HO_7
        (try simp only [hl7_1])
        cases gk with
        | zero => exact absurd HA.out (by simp [poly_each_sub.l0])
        | succ k1 =>
          have H := HA.out
          clear HA
          simp only [poly_each_sub.l0] at H
          by_cases c10 : x19_1 < (y216.length : Int)
          · rw [if_pos c10] at H
            have c10b0 : decide (x19_1 < (y216.length : Int)) = true := decide_eq_true c10
            have c10b0z := c10b0; (try simp only [hl7_1] at c10b0z)
            clear c10
            by_cases c11 : x19_1 < (l0.length : Int)
            · rw [if_pos c11] at H
              have c11b0 : decide (x19_1 < (l0.length : Int)) = true := decide_eq_true c11
              have c11b0z := c11b0; (try simp only [hl7_1] at c11b0z)
              clear c11
              by_cases c12 : 0 ≤ x19_1
              · rw [if_pos c12] at H
                have c12b0 : decide (0 ≤ x19_1) = true := decide_eq_true c12
                clear c12
                by_cases c13 : x19_1 < (l1.length : Int)
                · rw [if_pos c13] at H
                  have c13b0 : decide (x19_1 < (l1.length : Int)) = true := decide_eq_true c13
                  have c13b0z := c13b0; (try simp only [hl7_1] at c13b0z)
                  clear c13
                  replace H := Option.bind_eq_some_iff.mp H
                  obtain ⟨t224, A140, H⟩ := H
                  replace H : (if x19_1 < (x7_1.length : Int) then (poly_each_sub.l0 k1 l0 l1 a2 (x7_1.set (x19_1 : Int).toNat t224) (y216.length : Int) (wrap64 (x19_1 + 1))) else (none)) = some r := H
                  have A14 := Aside0.mk A140
                  clear A140
                  by_cases c15 : x19_1 < (x7_1.length : Int)
                  · rw [if_pos c15] at H
                    have c15b0 : decide (x19_1 < (x7_1.length : Int)) = true := decide_eq_true c15
                    have c15b0z := c15b0; (try simp only [hl7_1] at c15b0z)
                    clear c15
                    obtain ⟨y225, hy225⟩ : ∃ y_ : List Int, y_ = (x7_1.set (x19_1 : Int).toNat t224) := ⟨_, rfl⟩
                    replace H : (poly_each_sub.l0 k1 l0 l1 a2 y225 (y216.length : Int) (wrap64 (x19_1 + 1))) = some r := by first | (rw [hy225]; with_reducible exact H) | (have H2_ := (Option.bind_some _ _).symm.trans H; rw [hy225]; with_reducible exact H2_) | (have H2_ := (Option.bind_some _ _).symm.trans H; with_reducible exact H2_) | with_reducible exact H | (rw [hy225]; exact H) | exact H
                    have Ny225 := Aside0.mk hy225
                    clear hy225
                    have H' := Aside0.mk H
                    clear H
                    have p222 : 0 ≤ (x19_1 : Int) := of_decide_eq_true (by first | (with_reducible assumption) | assumption)
                    have q222 : x19_1 < (l0.length : Int) := of_decide_eq_true (by first | (with_reducible assumption) | assumption)
                    obtain ⟨ad222, e222, hx222_0⟩ := Kd.at_int HR0.out x19_1 p222 q222
                    cases e222
                    replace hx222_0 := (HB.out.cell (World.block_lt_of_cell? w _ hx222_0)).trans hx222_0
                    replace p222 := eq_true p222
                    replace q222 := eq_true q222
                    have p223 : 0 ≤ (x19_1 : Int) := of_decide_eq_true (by first | (with_reducible assumption) | assumption)
                    have q223 : x19_1 < (l1.length : Int) := of_decide_eq_true (by first | (with_reducible assumption) | assumption)
                    obtain ⟨ad223, e223, hx223_0⟩ := Kd.at_int HR1.out x19_1 p223 q223
                    cases e223
                    replace hx223_0 := (HB.out.cell (World.block_lt_of_cell? w _ hx223_0)).trans hx223_0
                    replace p223 := eq_true p223
                    replace q223 := eq_true q223
                    go_wp2_with (first | ((with_reducible refine gate_calleeV (x := .tmp 40) rfl ?_); refine goesV_ (some 43) rfl rfl Try.func70 (by kernel_rfl) rfl #[.int .u64 a2, .int .u64 (rd l0 x19_1), .int .u64 (rd l1 x19_1)] rfl (by first | rfl | (go_simp; done) | (go_simp; rfl)) (by (try simp only [List.map_toArray, List.map_cons, List.map_nil]); first | done | rfl | (simp only [List.length_drop, List.length_take]; rfl)) ?_; (with_reducible refine (poly_ring_sub.calls k1 a2 (rd l0 x19_1) (rd l1 x19_1) t224 _ A14.out).mono ?_); rintro e w17 ⟨rfl, hb⟩; refine ⟨_, rfl, ?_⟩; have n0_ := Aside0.mk (Kd.R_below (by (with_reducible repeat (first | apply Kd.R_alloc | apply Kd.R_drewN | apply Kd.R_drew)); exact HO_7.out) hb); have n1_ := Aside0.mk (below_step (by repeat (first | (with_reducible first | exact HB.out | apply below_alloc | apply pw_below_drewN | apply below_drew1) | exact HB.out)) hb); clear HO_7; clear HB; have HO_7 := n0_; have HB := n1_; clear n0_ n1_; (try clear hb); (try clear hb2); (try clear hk); (try clear hi); have p16 : 0 ≤ (x19_1 : Int) := of_decide_eq_true (by first | (with_reducible assumption) | assumption); have q16 : (x19_1 : Int) < ((x7_1.length : Int) : Int) := of_decide_eq_true (by first | (with_reducible assumption) | assumption); obtain ⟨go16, co16, eo16, gb16, gl16, cl16, HG16⟩ := Kd.R_form HO_7.out (by omega); (first | cases eo16 | (injection eo16 with ea_ en_ ec_; (first | subst ea_ | (injection ea_ with ea_; subst ea_)); subst ec_; clear en_)); have GB16 := Aside0.mk gb16; have GG16 := Aside0.mk HG16; clear gb16 gl16 HG16; obtain ⟨hx16_0, hf16_0⟩ := Kd.R_celln 0 HO_7.out (x19_1 : Int) p16 q16; replace p16 := eq_true p16; replace q16 := eq_true q16; obtain ⟨hy18_, hz18_⟩ := Kd.R_celln 0 HO_7.out (x19_1 : Int) (of_decide_eq_true (by first | (with_reducible assumption) | assumption)) (of_decide_eq_true (by first | (with_reducible assumption) | assumption)); have HP18 := Kd.R_putg HO_7.out (x19_1 : Int) t224) | ((with_reducible refine gate_store (t := 22) (p := 44) rfl ?_); refine store_event (t := 22) (p := 44) (v := ?vo_w19) (w1 := (w17.setCell ⟨go16, (x19_1 : Int).toNat, none⟩ (.int .u64 t224))) ?hg ?ho ?hn ?hr ?_; (case ho => rfl); (case hg => rfl); (case hn => rfl); (case hr => first | (go_simp; done) | (go_simp; rfl)); intro w19 hw; have hg : w17.grownBy w19 (some go16) := (by rw [hw]; exact HP18.2); have hp_ : Kd.R (Kd.int .u64) 22 w19 w.heap.size (fun k_ => (w.heap.size ≤ k_)) (.slice (some ⟨go16, 0, none⟩) x7_1.length co9) y225 := (by rw [hw, Ny225.out]; exact HP18.1); clear HP18; have n0_ := Aside0.mk (hp_); have n1_ := Aside0.mk ((by rw [hw]; exact below_set (HB.out) GB16.out : Below w.heap.size w w19)); clear HO_7; clear HB; have HO_7 := n0_; have HB := n1_; clear n0_ n1_; clear hg hw hp_))
                    (try simp only [← hl7_1])
                    go_roundg k1
                    case measure => have := HK1.out; omega
                    case rel => exact ⟨(y225), (wrap64 (x19_1 + 1)), (by first | rfl | (simp; done) | (simp [*]; done)), H', ⟨by have := HK1.out; omega⟩, ⟨by (try simp only [hl7_1]); (with_reducible repeat (first | apply Kd.R_alloc | apply Kd.R_drewN | apply Kd.R_drew)); exact HO_7.out⟩, ⟨by repeat (first | (with_reducible first | exact HB.out | apply below_alloc | apply pw_below_drewN | apply below_drew1) | exact HB.out)⟩⟩
                  · rw [if_neg c15] at H
                    exact absurd H (by simp)
                · rw [if_neg c13] at H
                  have c13b0 : decide (x19_1 < (l1.length : Int)) = false := decide_eq_false c13
                  have c13b0z := c13b0; (try simp only [hl7_1] at c13b0z)
                  clear c13
                  replace H := Option.bind_eq_some_iff.mp H
                  obtain ⟨t226, A200, H⟩ := H
                  replace H : (if x19_1 < (x7_1.length : Int) then (poly_each_sub.l0 k1 l0 l1 a2 (x7_1.set (x19_1 : Int).toNat t226) (y216.length : Int) (wrap64 (x19_1 + 1))) else (none)) = some r := H
                  have A20 := Aside0.mk A200
                  clear A200
                  by_cases c21 : x19_1 < (x7_1.length : Int)
                  · rw [if_pos c21] at H
                    have c21b0 : decide (x19_1 < (x7_1.length : Int)) = true := decide_eq_true c21
                    have c21b0z := c21b0; (try simp only [hl7_1] at c21b0z)
                    clear c21
                    obtain ⟨y227, hy227⟩ : ∃ y_ : List Int, y_ = (x7_1.set (x19_1 : Int).toNat t226) := ⟨_, rfl⟩
                    replace H : (poly_each_sub.l0 k1 l0 l1 a2 y227 (y216.length : Int) (wrap64 (x19_1 + 1))) = some r := by first | (rw [hy227]; with_reducible exact H) | (have H2_ := (Option.bind_some _ _).symm.trans H; rw [hy227]; with_reducible exact H2_) | (have H2_ := (Option.bind_some _ _).symm.trans H; with_reducible exact H2_) | with_reducible exact H | (rw [hy227]; exact H) | exact H
                    have Ny227 := Aside0.mk hy227
                    clear hy227
                    have H' := Aside0.mk H
                    clear H
                    have p222 : 0 ≤ (x19_1 : Int) := of_decide_eq_true (by first | (with_reducible assumption) | assumption)
                    have q222 : x19_1 < (l0.length : Int) := of_decide_eq_true (by first | (with_reducible assumption) | assumption)
                    obtain ⟨ad222, e222, hx222_0⟩ := Kd.at_int HR0.out x19_1 p222 q222
                    cases e222
                    replace hx222_0 := (HB.out.cell (World.block_lt_of_cell? w _ hx222_0)).trans hx222_0
                    replace p222 := eq_true p222
                    replace q222 := eq_true q222
                    go_wp2_with (first | ((with_reducible refine gate_calleeV (x := .tmp 40) rfl ?_); refine goesV_ (some 43) rfl rfl Try.func70 (by kernel_rfl) rfl #[.int .u64 a2, .int .u64 (rd l0 x19_1), .int .u64 0] rfl (by first | rfl | (go_simp; done) | (go_simp; rfl)) (by (try simp only [List.map_toArray, List.map_cons, List.map_nil]); first | done | rfl | (simp only [List.length_drop, List.length_take]; rfl)) ?_; (with_reducible refine (poly_ring_sub.calls k1 a2 (rd l0 x19_1) 0 t226 _ A20.out).mono ?_); rintro e w23 ⟨rfl, hb⟩; refine ⟨_, rfl, ?_⟩; have n0_ := Aside0.mk (Kd.R_below (by (with_reducible repeat (first | apply Kd.R_alloc | apply Kd.R_drewN | apply Kd.R_drew)); exact HO_7.out) hb); have n1_ := Aside0.mk (below_step (by repeat (first | (with_reducible first | exact HB.out | apply below_alloc | apply pw_below_drewN | apply below_drew1) | exact HB.out)) hb); clear HO_7; clear HB; have HO_7 := n0_; have HB := n1_; clear n0_ n1_; (try clear hb); (try clear hb2); (try clear hk); (try clear hi); have p22 : 0 ≤ (x19_1 : Int) := of_decide_eq_true (by first | (with_reducible assumption) | assumption); have q22 : (x19_1 : Int) < ((x7_1.length : Int) : Int) := of_decide_eq_true (by first | (with_reducible assumption) | assumption); obtain ⟨go22, co22, eo22, gb22, gl22, cl22, HG22⟩ := Kd.R_form HO_7.out (by omega); (first | cases eo22 | (injection eo22 with ea_ en_ ec_; (first | subst ea_ | (injection ea_ with ea_; subst ea_)); subst ec_; clear en_)); have GB22 := Aside0.mk gb22; have GG22 := Aside0.mk HG22; clear gb22 gl22 HG22; obtain ⟨hx22_0, hf22_0⟩ := Kd.R_celln 0 HO_7.out (x19_1 : Int) p22 q22; replace p22 := eq_true p22; replace q22 := eq_true q22; obtain ⟨hy24_, hz24_⟩ := Kd.R_celln 0 HO_7.out (x19_1 : Int) (of_decide_eq_true (by first | (with_reducible assumption) | assumption)) (of_decide_eq_true (by first | (with_reducible assumption) | assumption)); have HP24 := Kd.R_putg HO_7.out (x19_1 : Int) t226) | ((with_reducible refine gate_store (t := 22) (p := 44) rfl ?_); refine store_event (t := 22) (p := 44) (v := ?vo_w25) (w1 := (w23.setCell ⟨go22, (x19_1 : Int).toNat, none⟩ (.int .u64 t226))) ?hg ?ho ?hn ?hr ?_; (case ho => rfl); (case hg => rfl); (case hn => rfl); (case hr => first | (go_simp; done) | (go_simp; rfl)); intro w25 hw; have hg : w23.grownBy w25 (some go22) := (by rw [hw]; exact HP24.2); have hp_ : Kd.R (Kd.int .u64) 22 w25 w.heap.size (fun k_ => (w.heap.size ≤ k_)) (.slice (some ⟨go22, 0, none⟩) x7_1.length co9) y227 := (by rw [hw, Ny227.out]; exact HP24.1); clear HP24; have n0_ := Aside0.mk (hp_); have n1_ := Aside0.mk ((by rw [hw]; exact below_set (HB.out) GB22.out : Below w.heap.size w w25)); clear HO_7; clear HB; have HO_7 := n0_; have HB := n1_; clear n0_ n1_; clear hg hw hp_))
                    (try simp only [← hl7_1])
                    go_roundg k1
                    case measure => have := HK1.out; omega
                    case rel => exact ⟨(y227), (wrap64 (x19_1 + 1)), (by first | rfl | (simp; done) | (simp [*]; done)), H', ⟨by have := HK1.out; omega⟩, ⟨by (try simp only [hl7_1]); (with_reducible repeat (first | apply Kd.R_alloc | apply Kd.R_drewN | apply Kd.R_drew)); exact HO_7.out⟩, ⟨by repeat (first | (with_reducible first | exact HB.out | apply below_alloc | apply pw_below_drewN | apply below_drew1) | exact HB.out)⟩⟩
                  · rw [if_neg c21] at H
                    exact absurd H (by simp)
              · rw [if_neg c12] at H
                exact absurd H (by simp)
            · rw [if_neg c11] at H
              have c11b0 : decide (x19_1 < (l0.length : Int)) = false := decide_eq_false c11
              have c11b0z := c11b0; (try simp only [hl7_1] at c11b0z)
              clear c11
              by_cases c26 : x19_1 < (l1.length : Int)
              · rw [if_pos c26] at H
                have c26b0 : decide (x19_1 < (l1.length : Int)) = true := decide_eq_true c26
                have c26b0z := c26b0; (try simp only [hl7_1] at c26b0z)
                clear c26
                by_cases c27 : 0 ≤ x19_1
                · rw [if_pos c27] at H
                  have c27b0 : decide (0 ≤ x19_1) = true := decide_eq_true c27
                  clear c27
                  replace H := Option.bind_eq_some_iff.mp H
                  obtain ⟨t229, A280, H⟩ := H
                  replace H : (if x19_1 < (x7_1.length : Int) then (poly_each_sub.l0 k1 l0 l1 a2 (x7_1.set (x19_1 : Int).toNat t229) (y216.length : Int) (wrap64 (x19_1 + 1))) else (none)) = some r := H
                  have A28 := Aside0.mk A280
                  clear A280
                  by_cases c29 : x19_1 < (x7_1.length : Int)
                  · rw [if_pos c29] at H
                    have c29b0 : decide (x19_1 < (x7_1.length : Int)) = true := decide_eq_true c29
                    have c29b0z := c29b0; (try simp only [hl7_1] at c29b0z)
                    clear c29
                    obtain ⟨y230, hy230⟩ : ∃ y_ : List Int, y_ = (x7_1.set (x19_1 : Int).toNat t229) := ⟨_, rfl⟩
                    replace H : (poly_each_sub.l0 k1 l0 l1 a2 y230 (y216.length : Int) (wrap64 (x19_1 + 1))) = some r := by first | (rw [hy230]; with_reducible exact H) | (have H2_ := (Option.bind_some _ _).symm.trans H; rw [hy230]; with_reducible exact H2_) | (have H2_ := (Option.bind_some _ _).symm.trans H; with_reducible exact H2_) | with_reducible exact H | (rw [hy230]; exact H) | exact H
                    have Ny230 := Aside0.mk hy230
                    clear hy230
                    have H' := Aside0.mk H
                    clear H
                    have p228 : 0 ≤ (x19_1 : Int) := of_decide_eq_true (by first | (with_reducible assumption) | assumption)
                    have q228 : x19_1 < (l1.length : Int) := of_decide_eq_true (by first | (with_reducible assumption) | assumption)
                    obtain ⟨ad228, e228, hx228_0⟩ := Kd.at_int HR1.out x19_1 p228 q228
                    cases e228
                    replace hx228_0 := (HB.out.cell (World.block_lt_of_cell? w _ hx228_0)).trans hx228_0
                    replace p228 := eq_true p228
                    replace q228 := eq_true q228
                    go_wp2_with (first | ((with_reducible refine gate_calleeV (x := .tmp 40) rfl ?_); refine goesV_ (some 43) rfl rfl Try.func70 (by kernel_rfl) rfl #[.int .u64 a2, .int .u64 0, .int .u64 (rd l1 x19_1)] rfl (by first | rfl | (go_simp; done) | (go_simp; rfl)) (by (try simp only [List.map_toArray, List.map_cons, List.map_nil]); first | done | rfl | (simp only [List.length_drop, List.length_take]; rfl)) ?_; (with_reducible refine (poly_ring_sub.calls k1 a2 0 (rd l1 x19_1) t229 _ A28.out).mono ?_); rintro e w31 ⟨rfl, hb⟩; refine ⟨_, rfl, ?_⟩; have n0_ := Aside0.mk (Kd.R_below (by (with_reducible repeat (first | apply Kd.R_alloc | apply Kd.R_drewN | apply Kd.R_drew)); exact HO_7.out) hb); have n1_ := Aside0.mk (below_step (by repeat (first | (with_reducible first | exact HB.out | apply below_alloc | apply pw_below_drewN | apply below_drew1) | exact HB.out)) hb); clear HO_7; clear HB; have HO_7 := n0_; have HB := n1_; clear n0_ n1_; (try clear hb); (try clear hb2); (try clear hk); (try clear hi); have p30 : 0 ≤ (x19_1 : Int) := of_decide_eq_true (by first | (with_reducible assumption) | assumption); have q30 : (x19_1 : Int) < ((x7_1.length : Int) : Int) := of_decide_eq_true (by first | (with_reducible assumption) | assumption); obtain ⟨go30, co30, eo30, gb30, gl30, cl30, HG30⟩ := Kd.R_form HO_7.out (by omega); (first | cases eo30 | (injection eo30 with ea_ en_ ec_; (first | subst ea_ | (injection ea_ with ea_; subst ea_)); subst ec_; clear en_)); have GB30 := Aside0.mk gb30; have GG30 := Aside0.mk HG30; clear gb30 gl30 HG30; obtain ⟨hx30_0, hf30_0⟩ := Kd.R_celln 0 HO_7.out (x19_1 : Int) p30 q30; replace p30 := eq_true p30; replace q30 := eq_true q30; obtain ⟨hy32_, hz32_⟩ := Kd.R_celln 0 HO_7.out (x19_1 : Int) (of_decide_eq_true (by first | (with_reducible assumption) | assumption)) (of_decide_eq_true (by first | (with_reducible assumption) | assumption)); have HP32 := Kd.R_putg HO_7.out (x19_1 : Int) t229) | ((with_reducible refine gate_store (t := 22) (p := 44) rfl ?_); refine store_event (t := 22) (p := 44) (v := ?vo_w33) (w1 := (w31.setCell ⟨go30, (x19_1 : Int).toNat, none⟩ (.int .u64 t229))) ?hg ?ho ?hn ?hr ?_; (case ho => rfl); (case hg => rfl); (case hn => rfl); (case hr => first | (go_simp; done) | (go_simp; rfl)); intro w33 hw; have hg : w31.grownBy w33 (some go30) := (by rw [hw]; exact HP32.2); have hp_ : Kd.R (Kd.int .u64) 22 w33 w.heap.size (fun k_ => (w.heap.size ≤ k_)) (.slice (some ⟨go30, 0, none⟩) x7_1.length co9) y230 := (by rw [hw, Ny230.out]; exact HP32.1); clear HP32; have n0_ := Aside0.mk (hp_); have n1_ := Aside0.mk ((by rw [hw]; exact below_set (HB.out) GB30.out : Below w.heap.size w w33)); clear HO_7; clear HB; have HO_7 := n0_; have HB := n1_; clear n0_ n1_; clear hg hw hp_))
                    (try simp only [← hl7_1])
                    go_roundg k1
                    case measure => have := HK1.out; omega
                    case rel => exact ⟨(y230), (wrap64 (x19_1 + 1)), (by first | rfl | (simp; done) | (simp [*]; done)), H', ⟨by have := HK1.out; omega⟩, ⟨by (try simp only [hl7_1]); (with_reducible repeat (first | apply Kd.R_alloc | apply Kd.R_drewN | apply Kd.R_drew)); exact HO_7.out⟩, ⟨by repeat (first | (with_reducible first | exact HB.out | apply below_alloc | apply pw_below_drewN | apply below_drew1) | exact HB.out)⟩⟩
                  · rw [if_neg c29] at H
                    exact absurd H (by simp)
                · rw [if_neg c27] at H
                  exact absurd H (by simp)
              · rw [if_neg c26] at H
                have c26b0 : decide (x19_1 < (l1.length : Int)) = false := decide_eq_false c26
                have c26b0z := c26b0; (try simp only [hl7_1] at c26b0z)
                clear c26
                replace H := Option.bind_eq_some_iff.mp H
                obtain ⟨t231, A340, H⟩ := H
                replace H : (if 0 ≤ x19_1 then (if x19_1 < (x7_1.length : Int) then (poly_each_sub.l0 k1 l0 l1 a2 (x7_1.set (x19_1 : Int).toNat t231) (y216.length : Int) (wrap64 (x19_1 + 1))) else (none)) else (none)) = some r := H
                have A34 := Aside0.mk A340
                clear A340
                by_cases c35 : 0 ≤ x19_1
                · rw [if_pos c35] at H
                  have c35b0 : decide (0 ≤ x19_1) = true := decide_eq_true c35
                  clear c35
                  by_cases c36 : x19_1 < (x7_1.length : Int)
                  · rw [if_pos c36] at H
                    have c36b0 : decide (x19_1 < (x7_1.length : Int)) = true := decide_eq_true c36
                    have c36b0z := c36b0; (try simp only [hl7_1] at c36b0z)
                    clear c36
                    obtain ⟨y232, hy232⟩ : ∃ y_ : List Int, y_ = (x7_1.set (x19_1 : Int).toNat t231) := ⟨_, rfl⟩
                    replace H : (poly_each_sub.l0 k1 l0 l1 a2 y232 (y216.length : Int) (wrap64 (x19_1 + 1))) = some r := by first | (rw [hy232]; with_reducible exact H) | (have H2_ := (Option.bind_some _ _).symm.trans H; rw [hy232]; with_reducible exact H2_) | (have H2_ := (Option.bind_some _ _).symm.trans H; with_reducible exact H2_) | with_reducible exact H | (rw [hy232]; exact H) | exact H
                    have Ny232 := Aside0.mk hy232
                    clear hy232
                    have H' := Aside0.mk H
                    clear H
                    go_wp2_with (first | ((with_reducible refine gate_calleeV (x := .tmp 40) rfl ?_); refine goesV_ (some 43) rfl rfl Try.func70 (by kernel_rfl) rfl #[.int .u64 a2, .int .u64 0, .int .u64 0] rfl (by first | rfl | (go_simp; done) | (go_simp; rfl)) (by (try simp only [List.map_toArray, List.map_cons, List.map_nil]); first | done | rfl | (simp only [List.length_drop, List.length_take]; rfl)) ?_; (with_reducible refine (poly_ring_sub.calls k1 a2 0 0 t231 _ A34.out).mono ?_); rintro e w38 ⟨rfl, hb⟩; refine ⟨_, rfl, ?_⟩; have n0_ := Aside0.mk (Kd.R_below (by (with_reducible repeat (first | apply Kd.R_alloc | apply Kd.R_drewN | apply Kd.R_drew)); exact HO_7.out) hb); have n1_ := Aside0.mk (below_step (by repeat (first | (with_reducible first | exact HB.out | apply below_alloc | apply pw_below_drewN | apply below_drew1) | exact HB.out)) hb); clear HO_7; clear HB; have HO_7 := n0_; have HB := n1_; clear n0_ n1_; (try clear hb); (try clear hb2); (try clear hk); (try clear hi); have p37 : 0 ≤ (x19_1 : Int) := of_decide_eq_true (by first | (with_reducible assumption) | assumption); have q37 : (x19_1 : Int) < ((x7_1.length : Int) : Int) := of_decide_eq_true (by first | (with_reducible assumption) | assumption); obtain ⟨go37, co37, eo37, gb37, gl37, cl37, HG37⟩ := Kd.R_form HO_7.out (by omega); (first | cases eo37 | (injection eo37 with ea_ en_ ec_; (first | subst ea_ | (injection ea_ with ea_; subst ea_)); subst ec_; clear en_)); have GB37 := Aside0.mk gb37; have GG37 := Aside0.mk HG37; clear gb37 gl37 HG37; obtain ⟨hx37_0, hf37_0⟩ := Kd.R_celln 0 HO_7.out (x19_1 : Int) p37 q37; replace p37 := eq_true p37; replace q37 := eq_true q37; obtain ⟨hy39_, hz39_⟩ := Kd.R_celln 0 HO_7.out (x19_1 : Int) (of_decide_eq_true (by first | (with_reducible assumption) | assumption)) (of_decide_eq_true (by first | (with_reducible assumption) | assumption)); have HP39 := Kd.R_putg HO_7.out (x19_1 : Int) t231) | ((with_reducible refine gate_store (t := 22) (p := 44) rfl ?_); refine store_event (t := 22) (p := 44) (v := ?vo_w40) (w1 := (w38.setCell ⟨go37, (x19_1 : Int).toNat, none⟩ (.int .u64 t231))) ?hg ?ho ?hn ?hr ?_; (case ho => rfl); (case hg => rfl); (case hn => rfl); (case hr => first | (go_simp; done) | (go_simp; rfl)); intro w40 hw; have hg : w38.grownBy w40 (some go37) := (by rw [hw]; exact HP39.2); have hp_ : Kd.R (Kd.int .u64) 22 w40 w.heap.size (fun k_ => (w.heap.size ≤ k_)) (.slice (some ⟨go37, 0, none⟩) x7_1.length co9) y232 := (by rw [hw, Ny232.out]; exact HP39.1); clear HP39; have n0_ := Aside0.mk (hp_); have n1_ := Aside0.mk ((by rw [hw]; exact below_set (HB.out) GB37.out : Below w.heap.size w w40)); clear HO_7; clear HB; have HO_7 := n0_; have HB := n1_; clear n0_ n1_; clear hg hw hp_))
                    (try simp only [← hl7_1])
                    go_roundg k1
                    case measure => have := HK1.out; omega
                    case rel => exact ⟨(y232), (wrap64 (x19_1 + 1)), (by first | rfl | (simp; done) | (simp [*]; done)), H', ⟨by have := HK1.out; omega⟩, ⟨by (try simp only [hl7_1]); (with_reducible repeat (first | apply Kd.R_alloc | apply Kd.R_drewN | apply Kd.R_drew)); exact HO_7.out⟩, ⟨by repeat (first | (with_reducible first | exact HB.out | apply below_alloc | apply pw_below_drewN | apply below_drew1) | exact HB.out)⟩⟩
                  · rw [if_neg c36] at H
                    exact absurd H (by simp)
                · rw [if_neg c35] at H
                  exact absurd H (by simp)
          · rw [if_neg c10] at H
            have c10b0 : decide (x19_1 < (y216.length : Int)) = false := decide_eq_false c10
            have c10b0z := c10b0; (try simp only [hl7_1] at c10b0z)
            clear c10
            replace H := Option.bind_eq_some_iff.mp H
            obtain ⟨t219, A410, H⟩ := H
            replace H : (some t219) = some r := H
            have A41 := Aside0.mk A410
            clear A410
            obtain rfl := Option.some.inj H
            go_wp2_with (first | ((with_reducible refine gate_callee (f := 58) rfl ?_); refine goesL_ (some 47) rfl rfl Try.func58 (by kernel_rfl) rfl #[.slice Ao9 x7_1.length co9] rfl (by (try simp only [List.map_toArray, List.map_cons, List.map_nil]); first | done | rfl | (simp only [List.length_drop, List.length_take]; rfl)) ?_; (with_reducible refine (poly_trim.calls k1 (fun k_ => some k_ = (.slice Ao9 x7_1.length co9 : Value).ownBlock) _ _ x7_1 t219 _ ?side1 A41.out).mono ?_); (case side1 => exact Kd.R_V (Kd.R_tight rfl (HO_7.out))); rintro e w42 ⟨v220, rfl, ho0, hb⟩; refine ⟨_, rfl, ?_⟩; have n0_ := Aside0.mk (Kd.R_below (by (with_reducible repeat (first | apply Kd.R_alloc | apply Kd.R_drewN | apply Kd.R_drew)); exact HO_7.out) hb); have n1_ := Aside0.mk (Kd.V_lower (Kd.V_mono (ok' := fun k_ => (w.heap.size ≤ k_)) ho0 (fun k_ hk_ => Or.elim hk_ (fun hs_ => ((HO_7.out).1 k_ hs_.symm)) (fun hn_ => (Nat.le_trans (below_size (by repeat (first | (with_reducible first | exact HB.out | apply below_alloc | apply pw_below_drewN | apply below_drew1) | exact HB.out))) hn_)))) (below_size (by repeat (first | (with_reducible first | exact HB.out | apply below_alloc | apply pw_below_drewN | apply below_drew1) | exact HB.out)))); have n2_ := Aside0.mk (below_step (by repeat (first | (with_reducible first | exact HB.out | apply below_alloc | apply pw_below_drewN | apply below_drew1) | exact HB.out)) hb); clear HO_7; clear HB; have HO_7 := n0_; have HO221 := n1_; have HB := n2_; clear n0_ n1_ n2_; (try clear hb); (try clear hb2); (try clear hk); (try clear hi); (try clear ho0)))
            go_ret
            exact ⟨_, by first | rfl | (simp [errW_none, errW_some] <;> rfl) | (simp only [← hji4]; first | rfl | (simp [errW_none, errW_some] <;> rfl)) | (simp [*, errW_none, errW_some] <;> rfl), by (with_reducible repeat (first | apply Kd.V_alloc | apply Kd.V_drewN | apply Kd.V_drew)); exact HO221.out, by repeat (first | (with_reducible first | exact HB.out | apply below_alloc | apply pw_below_drewN | apply below_drew1) | exact HB.out)⟩
    · rw [if_neg c6] at H
      exact absurd H (by simp)
  · rw [if_neg c5] at H
    exact absurd H (by simp)

end Go.Proofs.Ytffcjgelcdilcaa.PAll

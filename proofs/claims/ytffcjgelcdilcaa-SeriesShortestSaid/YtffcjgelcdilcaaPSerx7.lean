/- Contracts of functions of the given program: printed out of the translation by a program of this session, with texts by hand for what the print does not take. -/
import Derived.Test.YtffcjgelcdilcaaPSerx0
import Derived.Test.YtffcjgelcdilcaaPSerx1
import Derived.Test.YtffcjgelcdilcaaPSerx3
import Derived.Test.YtffcjgelcdilcaaPSerx4
import Derived.Test.YtffcjgelcdilcaaPSerx5
import Derived.Test.YtffcjgelcdilcaaPSerx6
namespace Go.Proofs.Ytffcjgelcdilcaa.PSer
open Go.RowKit Go.Proofs.YtffcjgelcdilcaaW.PrintWords Go.Proofs.YtffcjgelcdilcaaW.PrintLast Go.Proofs.YtffcjgelcdilcaaW.PrintMore
attribute [local go_sem] max2_int min2_int max_two min_two max_three min_three max_four min_four   -- for this text's walks alone
set_option linter.unusedVariables false
set_option linter.unusedSimpArgs false

/-! ### affidavitlaw04_awake: function 14 -/
def affidavitlaw04_awake.f (k : Nat)  : Option (Bool) := (some (([1, 1, 2, 3, 5, 1] : List Int) : List Int)).bind fun y210 => ((series_Rule.f k 7 y210).bind fun bt213 => (if 2 ≤ (y210.length : Int) then ((series_On.f k 7 (y210.take 2) bt213.1 4).bind fun bt221 => ((series_Poly.f k 7 bt213.1).bind fun bt225 => (if bt213.2 = 0 then (if bt221.2 = 0 then (if bt225.2 = 0 then ((affidavitref01_Same.f k bt213.1 (([1, 6, 6] : List Int))).bind fun t232 => (if t232 = true then ((affidavitref01_Same.f k bt221.1 y210).bind fun t233 => (if t233 = true then ((affidavitref01_Same.f k bt225.1 (([6, 6, 1] : List Int))).bind fun t237 => (if t237 = true then ((series_Obeys.f k 7 y210 bt213.1).bind fun t238 => (if t238 = true then ((series_Right.f k 7 bt213.1).bind fun t239 => (some t239)) else (none))) else (none))) else (none))) else (none))) else (none)) else (none)) else (none)))) else (none)))
theorem affidavitlaw04_awake.mono : ∀ k, LeO (affidavitlaw04_awake.f k ) (affidavitlaw04_awake.f (k + 1) ) := by
  intro  k
  unfold affidavitlaw04_awake.f
  repeat' first
      | (with_reducible exact affidavitref01_Same.mono _ _ _)
      | (with_reducible exact series_Obeys.mono _ _ _ _)
      | (with_reducible exact series_On.mono _ _ _ _ _)
      | (with_reducible exact series_Poly.mono _ _ _)
      | (with_reducible exact series_Right.mono _ _ _)
      | (with_reducible exact series_Rule.mono _ _ _)
      | (with_reducible exact LeO.refl _)
      | (with_reducible exact LeO.none _)
      | (with_reducible refine LeO.ite ?_ ?_)
      | (with_reducible refine LeO.bind ?_ (fun _ => ?_))
      | exact affidavitref01_Same.mono _ _ _
      | exact series_Obeys.mono _ _ _ _
      | exact series_On.mono _ _ _ _ _
      | exact series_Poly.mono _ _ _
      | exact series_Right.mono _ _ _
      | exact series_Rule.mono _ _ _
      | exact LeO.none _
      | refine LeO.ite ?_ ?_
      | refine LeO.bind ?_ (fun _ => ?_)
set_option maxHeartbeats 8000000 in
set_option maxRecDepth 100000 in
theorem affidavitlaw04_awake.calls (k : Nat)  (r : Bool) (w : World) (h : affidavitlaw04_awake.f k  = some r) :
    Calls Try.prog 14 #[] w fun e w' => e = .returned (.bool r) ∧ Below w.heap.size w w' := by
  have HB := Aside0.mk (Below.refl w.heap.size w)
  have H : ((some (([1, 1, 2, 3, 5, 1] : List Int) : List Int)).bind fun y210 => ((series_Rule.f k 7 y210).bind fun bt213 => (if 2 ≤ (y210.length : Int) then ((series_On.f k 7 (y210.take 2) bt213.1 4).bind fun bt221 => ((series_Poly.f k 7 bt213.1).bind fun bt225 => (if bt213.2 = 0 then (if bt221.2 = 0 then (if bt225.2 = 0 then ((affidavitref01_Same.f k bt213.1 (([1, 6, 6] : List Int))).bind fun t232 => (if t232 = true then ((affidavitref01_Same.f k bt221.1 y210).bind fun t233 => (if t233 = true then ((affidavitref01_Same.f k bt225.1 (([6, 6, 1] : List Int))).bind fun t237 => (if t237 = true then ((series_Obeys.f k 7 y210 bt213.1).bind fun t238 => (if t238 = true then ((series_Right.f k 7 bt213.1).bind fun t239 => (some t239)) else (none))) else (none))) else (none))) else (none))) else (none)) else (none)) else (none)))) else (none)))) = some r := h
  clear h
  obtain ⟨y210, hy210⟩ : ∃ y_ : List Int, y_ = (([1, 1, 2, 3, 5, 1] : List Int)) := ⟨_, rfl⟩
  replace H : ((series_Rule.f k 7 y210).bind fun bt213 => (if 2 ≤ (y210.length : Int) then ((series_On.f k 7 (y210.take 2) bt213.1 4).bind fun bt221 => ((series_Poly.f k 7 bt213.1).bind fun bt225 => (if bt213.2 = 0 then (if bt221.2 = 0 then (if bt225.2 = 0 then ((affidavitref01_Same.f k bt213.1 (([1, 6, 6] : List Int))).bind fun t232 => (if t232 = true then ((affidavitref01_Same.f k bt221.1 y210).bind fun t233 => (if t233 = true then ((affidavitref01_Same.f k bt225.1 (([6, 6, 1] : List Int))).bind fun t237 => (if t237 = true then ((series_Obeys.f k 7 y210 bt213.1).bind fun t238 => (if t238 = true then ((series_Right.f k 7 bt213.1).bind fun t239 => (some t239)) else (none))) else (none))) else (none))) else (none))) else (none)) else (none)) else (none)))) else (none))) = some r := by first | (rw [hy210]; with_reducible exact H) | (have H2_ := (Option.bind_some _ _).symm.trans H; rw [hy210]; with_reducible exact H2_) | (have H2_ := (Option.bind_some _ _).symm.trans H; with_reducible exact H2_) | with_reducible exact H | (rw [hy210]; exact H) | exact H
  have Ny210 := Aside0.mk hy210
  clear hy210
  replace H := Option.bind_eq_some_iff.mp H
  obtain ⟨⟨t213, t216⟩, A10, H⟩ := H
  replace H : (if 2 ≤ (y210.length : Int) then ((series_On.f k 7 (y210.take 2) t213 4).bind fun bt221 => ((series_Poly.f k 7 t213).bind fun bt225 => (if t216 = 0 then (if bt221.2 = 0 then (if bt225.2 = 0 then ((affidavitref01_Same.f k t213 (([1, 6, 6] : List Int))).bind fun t232 => (if t232 = true then ((affidavitref01_Same.f k bt221.1 y210).bind fun t233 => (if t233 = true then ((affidavitref01_Same.f k bt225.1 (([6, 6, 1] : List Int))).bind fun t237 => (if t237 = true then ((series_Obeys.f k 7 y210 t213).bind fun t238 => (if t238 = true then ((series_Right.f k 7 t213).bind fun t239 => (some t239)) else (none))) else (none))) else (none))) else (none))) else (none)) else (none)) else (none)))) else (none)) = some r := H
  have A1 := Aside0.mk A10
  clear A10
  by_cases c2 : 2 ≤ (y210.length : Int)
  · rw [if_pos c2] at H
    have c2b0 := eq_true c2
    have c2b1 : decide (2 ≤ (y210.length : Int)) = true := decide_eq_true c2
    clear c2
    obtain ⟨y217, hy217⟩ : ∃ y_ : List Int, y_ = (y210.take 2) := ⟨_, rfl⟩
    replace H : ((series_On.f k 7 y217 t213 4).bind fun bt221 => ((series_Poly.f k 7 t213).bind fun bt225 => (if t216 = 0 then (if bt221.2 = 0 then (if bt225.2 = 0 then ((affidavitref01_Same.f k t213 (([1, 6, 6] : List Int))).bind fun t232 => (if t232 = true then ((affidavitref01_Same.f k bt221.1 y210).bind fun t233 => (if t233 = true then ((affidavitref01_Same.f k bt225.1 (([6, 6, 1] : List Int))).bind fun t237 => (if t237 = true then ((series_Obeys.f k 7 y210 t213).bind fun t238 => (if t238 = true then ((series_Right.f k 7 t213).bind fun t239 => (some t239)) else (none))) else (none))) else (none))) else (none))) else (none)) else (none)) else (none)))) = some r := by first | (rw [hy217]; with_reducible exact H) | (have H2_ := (Option.bind_some _ _).symm.trans H; rw [hy217]; with_reducible exact H2_) | (have H2_ := (Option.bind_some _ _).symm.trans H; with_reducible exact H2_) | with_reducible exact H | (rw [hy217]; exact H) | exact H
    have Ny217 := Aside0.mk hy217
    clear hy217
    replace H := Option.bind_eq_some_iff.mp H
    obtain ⟨⟨t221, t222⟩, A30, H⟩ := H
    replace H : ((series_Poly.f k 7 t213).bind fun bt225 => (if t216 = 0 then (if t222 = 0 then (if bt225.2 = 0 then ((affidavitref01_Same.f k t213 (([1, 6, 6] : List Int))).bind fun t232 => (if t232 = true then ((affidavitref01_Same.f k t221 y210).bind fun t233 => (if t233 = true then ((affidavitref01_Same.f k bt225.1 (([6, 6, 1] : List Int))).bind fun t237 => (if t237 = true then ((series_Obeys.f k 7 y210 t213).bind fun t238 => (if t238 = true then ((series_Right.f k 7 t213).bind fun t239 => (some t239)) else (none))) else (none))) else (none))) else (none))) else (none)) else (none)) else (none))) = some r := H
    have A3 := Aside0.mk A30
    clear A30
    replace H := Option.bind_eq_some_iff.mp H
    obtain ⟨⟨t225, t228⟩, A40, H⟩ := H
    replace H : (if t216 = 0 then (if t222 = 0 then (if t228 = 0 then ((affidavitref01_Same.f k t213 (([1, 6, 6] : List Int))).bind fun t232 => (if t232 = true then ((affidavitref01_Same.f k t221 y210).bind fun t233 => (if t233 = true then ((affidavitref01_Same.f k t225 (([6, 6, 1] : List Int))).bind fun t237 => (if t237 = true then ((series_Obeys.f k 7 y210 t213).bind fun t238 => (if t238 = true then ((series_Right.f k 7 t213).bind fun t239 => (some t239)) else (none))) else (none))) else (none))) else (none))) else (none)) else (none)) else (none)) = some r := H
    have A4 := Aside0.mk A40
    clear A40
    by_cases c5 : t216 = 0
    · rw [if_pos c5] at H
      have c5b0 : (t216 == 0) = true := beq_iff_eq.mpr c5
      have c5b1 : (t216 != 0) = false := bne_eq_false_iff_eq.mpr c5
      clear c5
      by_cases c6 : t222 = 0
      · rw [if_pos c6] at H
        have c6b0 : (t222 == 0) = true := beq_iff_eq.mpr c6
        have c6b1 : (t222 != 0) = false := bne_eq_false_iff_eq.mpr c6
        clear c6
        by_cases c7 : t228 = 0
        · rw [if_pos c7] at H
          have c7b0 : (t228 == 0) = true := beq_iff_eq.mpr c7
          have c7b1 : (t228 != 0) = false := bne_eq_false_iff_eq.mpr c7
          clear c7
          obtain ⟨y229, hy229⟩ : ∃ y_ : List Int, y_ = (([1, 6, 6] : List Int)) := ⟨_, rfl⟩
          replace H : ((affidavitref01_Same.f k t213 y229).bind fun t232 => (if t232 = true then ((affidavitref01_Same.f k t221 y210).bind fun t233 => (if t233 = true then ((affidavitref01_Same.f k t225 (([6, 6, 1] : List Int))).bind fun t237 => (if t237 = true then ((series_Obeys.f k 7 y210 t213).bind fun t238 => (if t238 = true then ((series_Right.f k 7 t213).bind fun t239 => (some t239)) else (none))) else (none))) else (none))) else (none))) = some r := by first | (rw [hy229]; with_reducible exact H) | (have H2_ := (Option.bind_some _ _).symm.trans H; rw [hy229]; with_reducible exact H2_) | (have H2_ := (Option.bind_some _ _).symm.trans H; with_reducible exact H2_) | with_reducible exact H | (rw [hy229]; exact H) | exact H
          have Ny229 := Aside0.mk hy229
          clear hy229
          replace H := Option.bind_eq_some_iff.mp H
          obtain ⟨t232, A80, H⟩ := H
          replace H : (if t232 = true then ((affidavitref01_Same.f k t221 y210).bind fun t233 => (if t233 = true then ((affidavitref01_Same.f k t225 (([6, 6, 1] : List Int))).bind fun t237 => (if t237 = true then ((series_Obeys.f k 7 y210 t213).bind fun t238 => (if t238 = true then ((series_Right.f k 7 t213).bind fun t239 => (some t239)) else (none))) else (none))) else (none))) else (none)) = some r := H
          have A8 := Aside0.mk A80
          clear A80
          by_cases c9 : t232 = true
          · subst c9
            have H1 : ((affidavitref01_Same.f k t221 y210).bind fun t233 => (if t233 = true then ((affidavitref01_Same.f k t225 (([6, 6, 1] : List Int))).bind fun t237 => (if t237 = true then ((series_Obeys.f k 7 y210 t213).bind fun t238 => (if t238 = true then ((series_Right.f k 7 t213).bind fun t239 => (some t239)) else (none))) else (none))) else (none))) = some r := by rw [if_pos rfl] at H; exact H
            clear H
            have H := H1
            clear H1
            replace H := Option.bind_eq_some_iff.mp H
            obtain ⟨t233, A100, H⟩ := H
            replace H : (if t233 = true then ((affidavitref01_Same.f k t225 (([6, 6, 1] : List Int))).bind fun t237 => (if t237 = true then ((series_Obeys.f k 7 y210 t213).bind fun t238 => (if t238 = true then ((series_Right.f k 7 t213).bind fun t239 => (some t239)) else (none))) else (none))) else (none)) = some r := H
            have A10 := Aside0.mk A100
            clear A100
            by_cases c11 : t233 = true
            · subst c11
              have H1 : ((affidavitref01_Same.f k t225 (([6, 6, 1] : List Int))).bind fun t237 => (if t237 = true then ((series_Obeys.f k 7 y210 t213).bind fun t238 => (if t238 = true then ((series_Right.f k 7 t213).bind fun t239 => (some t239)) else (none))) else (none))) = some r := by rw [if_pos rfl] at H; exact H
              clear H
              have H := H1
              clear H1
              obtain ⟨y234, hy234⟩ : ∃ y_ : List Int, y_ = (([6, 6, 1] : List Int)) := ⟨_, rfl⟩
              replace H : ((affidavitref01_Same.f k t225 y234).bind fun t237 => (if t237 = true then ((series_Obeys.f k 7 y210 t213).bind fun t238 => (if t238 = true then ((series_Right.f k 7 t213).bind fun t239 => (some t239)) else (none))) else (none))) = some r := by first | (rw [hy234]; with_reducible exact H) | (have H2_ := (Option.bind_some _ _).symm.trans H; rw [hy234]; with_reducible exact H2_) | (have H2_ := (Option.bind_some _ _).symm.trans H; with_reducible exact H2_) | with_reducible exact H | (rw [hy234]; exact H) | exact H
              have Ny234 := Aside0.mk hy234
              clear hy234
              replace H := Option.bind_eq_some_iff.mp H
              obtain ⟨t237, A120, H⟩ := H
              replace H : (if t237 = true then ((series_Obeys.f k 7 y210 t213).bind fun t238 => (if t238 = true then ((series_Right.f k 7 t213).bind fun t239 => (some t239)) else (none))) else (none)) = some r := H
              have A12 := Aside0.mk A120
              clear A120
              by_cases c13 : t237 = true
              · subst c13
                have H1 : ((series_Obeys.f k 7 y210 t213).bind fun t238 => (if t238 = true then ((series_Right.f k 7 t213).bind fun t239 => (some t239)) else (none))) = some r := by rw [if_pos rfl] at H; exact H
                clear H
                have H := H1
                clear H1
                replace H := Option.bind_eq_some_iff.mp H
                obtain ⟨t238, A140, H⟩ := H
                replace H : (if t238 = true then ((series_Right.f k 7 t213).bind fun t239 => (some t239)) else (none)) = some r := H
                have A14 := Aside0.mk A140
                clear A140
                by_cases c15 : t238 = true
                · subst c15
                  have H1 : ((series_Right.f k 7 t213).bind fun t239 => (some t239)) = some r := by rw [if_pos rfl] at H; exact H
                  clear H
                  have H := H1
                  clear H1
                  replace H := Option.bind_eq_some_iff.mp H
                  obtain ⟨t239, A160, H⟩ := H
                  replace H : (some t239) = some r := H
                  have A16 := Aside0.mk A160
                  clear A160
                  obtain rfl := Option.some.inj H
                  go_enter Try.func14, Try.ntmps14
                  go_wp2_with (first | ((with_reducible refine gate_dst (N := 8) rfl ?_); (try (refine gate_guard (by rfl) ?_; dsimp only)); refine Kd.R_lit (Kd.int .u64) _ 22 ?hg (N := 8) ?hd (xs := ([1, 1, 2, 3, 5, 1] : List Int)) (inner := [.int .u64 1, .int .u64 1, .int .u64 2, .int .u64 3, .int .u64 5, .int .u64 1]) (ok := fun _ => True) (okp := fun _ => True) ?hr ?hp (fun _ hk => hk) trivial (Below.refl _ _) (Nat.le_refl _) (by simp) ?_; (case hd => rfl); (case hg => rfl); (case hr => first | (go_simp; done) | (go_simp; rfl)); (case hp => exact (Reps.one (show Kd.M (Kd.int .u64) _ _ _ 1 [.int .u64 1] from rfl) (Reps.one (show Kd.M (Kd.int .u64) _ _ _ 1 [.int .u64 1] from rfl) (Reps.one (show Kd.M (Kd.int .u64) _ _ _ 2 [.int .u64 2] from rfl) (Reps.one (show Kd.M (Kd.int .u64) _ _ _ 3 [.int .u64 3] from rfl) (Reps.one (show Kd.M (Kd.int .u64) _ _ _ 5 [.int .u64 5] from rfl) (Reps.one (show Kd.M (Kd.int .u64) _ _ _ 1 [.int .u64 1] from rfl) (Reps.none _ _)))))))); intro v211 w17 ho18 hb hg_ hnew_; clear hg_ hnew_; (first | rw [← Ny210.out] at ho18 | (simp only [Int.reduceToNat] at ho18; rw [← Ny210.out] at ho18)); have n0_ := Aside0.mk (Kd.R_lower ho18 (below_size (by repeat (first | (with_reducible first | exact HB.out | apply below_alloc | apply pw_below_drewN | apply below_drew1) | exact HB.out)))); have n1_ := Aside0.mk (below_step (by repeat (first | (with_reducible first | exact HB.out | apply below_alloc | apply pw_below_drewN | apply below_drew1) | exact HB.out)) hb); clear HB; have HO212 := n0_; have HB := n1_; clear n0_ n1_; clear hb ho18; obtain ⟨Ao19, co19, eo19⟩ := Kd.R_slice HO212.out; subst eo19) | ((with_reducible refine gate_callee (f := 25) rfl ?_); refine goesL_ (some 11) rfl rfl Try.func25 (by kernel_rfl) rfl #[.int .u64 7, .slice Ao19 y210.length co19] rfl (by (try simp only [List.map_toArray, List.map_cons, List.map_nil]); first | done | rfl | (simp only [List.length_drop, List.length_take]; rfl)) ?_; (with_reducible refine (series_Rule.calls k 7 _ _ y210 t213 t216 _ ?side1 ?side2 A1.out).mono ?_); (case side1 => repeat (first | exact (Kd.R_reads' HO212.out).2.2 | (with_reducible refine Kd.C_alloc ?_ _) | (with_reducible refine Kd.C_drewN ?_ _) | (with_reducible refine Kd.C_drew ?_))); (case side2 => exact (Kd.R_reads' HO212.out).2.1); rintro e w20 ⟨v214, rfl, ho0, hb⟩; refine ⟨_, rfl, ?_⟩; have n0_ := Aside0.mk (Kd.R_below (by (with_reducible repeat (first | apply Kd.R_alloc | apply Kd.R_drewN | apply Kd.R_drew)); exact HO212.out) hb); have n1_ := Aside0.mk (Kd.V_lower (Kd.V_mono (ok' := fun k_ => some k_ ≠ (.slice Ao19 y210.length co19 : Value).ownBlock) ho0 (fun k_ hk_ => (Kd.fresh' (Kd.R_lt (by (with_reducible repeat (first | apply Kd.R_alloc | apply Kd.R_drewN | apply Kd.R_drew)); exact HO212.out)) k_ hk_))) (below_size (by repeat (first | (with_reducible first | exact HB.out | apply below_alloc | apply pw_below_drewN | apply below_drew1) | exact HB.out)))); have n2_ := Aside0.mk (below_step (by repeat (first | (with_reducible first | exact HB.out | apply below_alloc | apply pw_below_drewN | apply below_drew1) | exact HB.out)) hb); clear HO212; clear HB; have HO212 := n0_; have HO215 := n1_; have HB := n2_; clear n0_ n1_ n2_; (try clear hb); (try clear hb2); (try clear hk); (try clear hi); (try clear ho0); have q21 : (2 : Int) ≤ ((y210.length : Int) : Int) := of_decide_eq_true (by first | (with_reducible assumption) | assumption); obtain ⟨i021, hi021, _, hsz21, _⟩ := info_parts info22; have hroom21 : y210.length ≤ co19 := (Kd.R_reads' HO212.out).2.1; have hC21 : Kd.C (Kd.int .u64) _ Ao19 y210.length y210 := (Kd.R_reads' HO212.out).2.2; have hcut21 := cut_to (P := Try.prog) 23 22 .i64 Try.underlying23 hi021 Ao19 y210.length co19 2 (by omega) q21 hroom21; have hr21 := Kd.C_take (m := 2) hC21 (by omega); have hy21 : y217.length = (2 : Int).toNat := (by rw [Ny217.out, List.length_take]; omega); rw [← Ny217.out] at hr21; rw [← hy21] at hcut21; have HR220 := Aside0.mk hr21; have HC220 := Aside0.mk (show y217.length ≤ co19 from by omega); clear hr21 hC21 hroom21 hi021 hsz21; have KY21 := Aside0.mk hy21; clear hy21; have KL21 := Aside0.mk (show 2 ≤ y210.length from by omega); replace q21 := eq_true q21; obtain ⟨Ao22, co22, eo22⟩ := Kd.V_slice HO215.out; subst eo22) | ((with_reducible refine gate_callee (f := 16) rfl ?_); refine goesL_ (some 18) rfl rfl Try.func16 (by kernel_rfl) rfl #[.int .u64 7, .slice Ao19 y217.length co19, .slice Ao22 t213.length co22, .int .i64 4] rfl (by (try simp only [List.map_toArray, List.map_cons, List.map_nil]); first | done | rfl | (simp only [List.length_drop, List.length_take]; rfl)) ?_; (with_reducible refine (series_On.calls k 7 _ _ y217 _ _ t213 4 t221 t222 _ ?side1 ?side2 ?side3 ?side4 A3.out).mono ?_); (case side1 => repeat (first | exact (by repeat (first | (with_reducible exact HR220.out) | (with_reducible refine Kd.C_alloc ?_ _) | (with_reducible refine Kd.C_drewN ?_ _) | (with_reducible refine Kd.C_drew ?_) | exact HR220.out)) | (with_reducible refine Kd.C_alloc ?_ _) | (with_reducible refine Kd.C_drewN ?_ _) | (with_reducible refine Kd.C_drew ?_))); (case side2 => exact HC220.out); (case side3 => repeat (first | exact (Kd.V_reads' HO215.out).2.2 | (with_reducible refine Kd.C_alloc ?_ _) | (with_reducible refine Kd.C_drewN ?_ _) | (with_reducible refine Kd.C_drew ?_))); (case side4 => exact (Kd.V_reads' HO215.out).2.1); rintro e w23 ⟨v223, rfl, ho0, hb⟩; refine ⟨_, rfl, ?_⟩; have n0_ := Aside0.mk (Kd.R_elder' (by (with_reducible repeat (first | apply Kd.R_alloc | apply Kd.R_drewN | apply Kd.R_drew)); exact HO212.out) (Kd.R_base ho0) hb); have n1_ := Aside0.mk (Kd.V_elder' (by (with_reducible repeat (first | apply Kd.V_alloc | apply Kd.V_drewN | apply Kd.V_drew)); exact HO215.out) (Kd.R_base ho0) hb); have n2_ := Aside0.mk (Kd.R_lower (Kd.R_new' ho0 (Kd.R_lt (by (with_reducible repeat (first | apply Kd.R_alloc | apply Kd.R_drewN | apply Kd.R_drew)); exact HO212.out))) (below_size (by repeat (first | (with_reducible first | exact HB.out | apply below_alloc | apply pw_below_drewN | apply below_drew1) | exact HB.out)))); have n3_ := Aside0.mk (Kd.C_below (by repeat (first | (with_reducible exact HR220.out) | (with_reducible refine Kd.C_alloc ?_ _) | (with_reducible refine Kd.C_drewN ?_ _) | (with_reducible refine Kd.C_drew ?_) | exact HR220.out)) hb); have n4_ := Aside0.mk (below_step (by repeat (first | (with_reducible first | exact HB.out | apply below_alloc | apply pw_below_drewN | apply below_drew1) | exact HB.out)) hb); clear HO212; clear HO215; clear HR220; clear HB; have HO212 := n0_; have HO215 := n1_; have HO224 := n2_; have HR220 := n3_; have HB := n4_; clear n0_ n1_ n2_ n3_ n4_; (try clear hb); (try clear hb2); (try clear hk); (try clear hi); (try clear ho0)) | ((with_reducible refine gate_callee (f := 17) rfl ?_); refine goesL_ (some 23) rfl rfl Try.func17 (by kernel_rfl) rfl #[.int .u64 7, .slice Ao22 t213.length co22] rfl (by (try simp only [List.map_toArray, List.map_cons, List.map_nil]); first | done | rfl | (simp only [List.length_drop, List.length_take]; rfl)) ?_; (with_reducible refine (series_Poly.calls k 7 _ _ t213 t225 t228 _ ?side1 ?side2 A4.out).mono ?_); (case side1 => repeat (first | exact (Kd.V_reads' HO215.out).2.2 | (with_reducible refine Kd.C_alloc ?_ _) | (with_reducible refine Kd.C_drewN ?_ _) | (with_reducible refine Kd.C_drew ?_))); (case side2 => exact (Kd.V_reads' HO215.out).2.1); rintro e w24 ⟨v226, rfl, ho0, hb⟩; refine ⟨_, rfl, ?_⟩; have n0_ := Aside0.mk (Kd.R_below (by (with_reducible repeat (first | apply Kd.R_alloc | apply Kd.R_drewN | apply Kd.R_drew)); exact HO212.out) hb); have n1_ := Aside0.mk (Kd.V_below (by (with_reducible repeat (first | apply Kd.V_alloc | apply Kd.V_drewN | apply Kd.V_drew)); exact HO215.out) hb); have n2_ := Aside0.mk (Kd.R_below (by (with_reducible repeat (first | apply Kd.R_alloc | apply Kd.R_drewN | apply Kd.R_drew)); exact HO224.out) hb); have n3_ := Aside0.mk (Kd.V_lower (Kd.V_mono (ok' := fun k_ => some k_ ≠ (.slice Ao19 y210.length co19 : Value).ownBlock ∧ some k_ ≠ (v223 : Value).ownBlock) ho0 (fun k_ hk_ => ⟨(Kd.fresh' (Kd.R_lt (by (with_reducible repeat (first | apply Kd.R_alloc | apply Kd.R_drewN | apply Kd.R_drew)); exact HO212.out)) k_ hk_), (Kd.fresh' (Kd.R_lt (by (with_reducible repeat (first | apply Kd.R_alloc | apply Kd.R_drewN | apply Kd.R_drew)); exact HO224.out)) k_ hk_)⟩)) (below_size (by repeat (first | (with_reducible first | exact HB.out | apply below_alloc | apply pw_below_drewN | apply below_drew1) | exact HB.out)))); have n4_ := Aside0.mk (Kd.C_below (by repeat (first | (with_reducible exact HR220.out) | (with_reducible refine Kd.C_alloc ?_ _) | (with_reducible refine Kd.C_drewN ?_ _) | (with_reducible refine Kd.C_drew ?_) | exact HR220.out)) hb); have n5_ := Aside0.mk (below_step (by repeat (first | (with_reducible first | exact HB.out | apply below_alloc | apply pw_below_drewN | apply below_drew1) | exact HB.out)) hb); clear HO212; clear HO215; clear HO224; clear HR220; clear HB; have HO212 := n0_; have HO215 := n1_; have HO224 := n2_; have HO227 := n3_; have HR220 := n4_; have HB := n5_; clear n0_ n1_ n2_ n3_ n4_ n5_; (try clear hb); (try clear hb2); (try clear hk); (try clear hi); (try clear ho0)) | ((with_reducible refine gate_dst (N := 38) rfl ?_); (try (refine gate_guard (by rfl) ?_; dsimp only)); refine Kd.R_lit (Kd.int .u64) _ 22 ?hg (N := 38) ?hd (xs := ([1, 6, 6] : List Int)) (inner := [.int .u64 1, .int .u64 6, .int .u64 6]) (ok := fun _ => True) (okp := fun _ => True) ?hr ?hp (fun _ hk => hk) trivial (Below.refl _ _) (Nat.le_refl _) (by simp) ?_; (case hd => rfl); (case hg => rfl); (case hr => first | (go_simp; done) | (go_simp; rfl)); (case hp => exact (Reps.one (show Kd.M (Kd.int .u64) _ _ _ 1 [.int .u64 1] from rfl) (Reps.one (show Kd.M (Kd.int .u64) _ _ _ 6 [.int .u64 6] from rfl) (Reps.one (show Kd.M (Kd.int .u64) _ _ _ 6 [.int .u64 6] from rfl) (Reps.none _ _))))); intro v230 w25 ho26 hb hg_ hnew_; clear hg_ hnew_; (first | rw [← Ny229.out] at ho26 | (simp only [Int.reduceToNat] at ho26; rw [← Ny229.out] at ho26)); have n0_ := Aside0.mk (Kd.R_elder' (by (with_reducible repeat (first | apply Kd.R_alloc | apply Kd.R_drewN | apply Kd.R_drew)); exact HO212.out) (Kd.R_base ho26) hb); have n1_ := Aside0.mk (Kd.V_elder' (by (with_reducible repeat (first | apply Kd.V_alloc | apply Kd.V_drewN | apply Kd.V_drew)); exact HO215.out) (Kd.R_base ho26) hb); have n2_ := Aside0.mk (Kd.R_elder' (by (with_reducible repeat (first | apply Kd.R_alloc | apply Kd.R_drewN | apply Kd.R_drew)); exact HO224.out) (Kd.R_base ho26) hb); have n3_ := Aside0.mk (Kd.V_elder' (by (with_reducible repeat (first | apply Kd.V_alloc | apply Kd.V_drewN | apply Kd.V_drew)); exact HO227.out) (Kd.R_base ho26) hb); have n4_ := Aside0.mk (Kd.R_lower (Kd.R_new' (Kd.R_new' ho26 (Kd.R_lt (by (with_reducible repeat (first | apply Kd.R_alloc | apply Kd.R_drewN | apply Kd.R_drew)); exact HO212.out))) (Kd.R_lt (by (with_reducible repeat (first | apply Kd.R_alloc | apply Kd.R_drewN | apply Kd.R_drew)); exact HO224.out))) (below_size (by repeat (first | (with_reducible first | exact HB.out | apply below_alloc | apply pw_below_drewN | apply below_drew1) | exact HB.out)))); have n5_ := Aside0.mk (Kd.C_below (by repeat (first | (with_reducible exact HR220.out) | (with_reducible refine Kd.C_alloc ?_ _) | (with_reducible refine Kd.C_drewN ?_ _) | (with_reducible refine Kd.C_drew ?_) | exact HR220.out)) hb); have n6_ := Aside0.mk (below_step (by repeat (first | (with_reducible first | exact HB.out | apply below_alloc | apply pw_below_drewN | apply below_drew1) | exact HB.out)) hb); clear HO212; clear HO215; clear HO224; clear HO227; clear HR220; clear HB; have HO212 := n0_; have HO215 := n1_; have HO224 := n2_; have HO227 := n3_; have HO231 := n4_; have HR220 := n5_; have HB := n6_; clear n0_ n1_ n2_ n3_ n4_ n5_ n6_; clear hb ho26; obtain ⟨Ao27, co27, eo27⟩ := Kd.R_slice HO231.out; subst eo27) | (go_at_call 21; (with_reducible refine (affidavitref01_Same.calls k _ _ t213 _ _ y229 true _ ?side1 ?side2 ?side3 ?side4 A8.out).mono ?_); (case side1 => repeat (first | exact (Kd.V_reads' HO215.out).2.2 | (with_reducible refine Kd.C_alloc ?_ _) | (with_reducible refine Kd.C_drewN ?_ _) | (with_reducible refine Kd.C_drew ?_))); (case side2 => exact (Kd.V_reads' HO215.out).2.1); (case side3 => repeat (first | exact (Kd.R_reads' HO231.out).2.2 | (with_reducible refine Kd.C_alloc ?_ _) | (with_reducible refine Kd.C_drewN ?_ _) | (with_reducible refine Kd.C_drew ?_))); (case side4 => exact (Kd.R_reads' HO231.out).2.1); rintro e w' ⟨rfl, ⟨nd, rfl⟩⟩; obtain ⟨Ao28, co28, eo28⟩ := Kd.R_slice HO224.out; subst eo28) | (go_at_call 21; (with_reducible refine (affidavitref01_Same.calls k _ _ t221 _ _ y210 true _ ?side1 ?side2 ?side3 ?side4 A10.out).mono ?_); (case side1 => repeat (first | exact (Kd.R_reads' HO224.out).2.2 | (with_reducible refine Kd.C_alloc ?_ _) | (with_reducible refine Kd.C_drewN ?_ _) | (with_reducible refine Kd.C_drew ?_))); (case side2 => exact (Kd.R_reads' HO224.out).2.1); (case side3 => repeat (first | exact (Kd.R_reads' HO212.out).2.2 | (with_reducible refine Kd.C_alloc ?_ _) | (with_reducible refine Kd.C_drewN ?_ _) | (with_reducible refine Kd.C_drew ?_))); (case side4 => exact (Kd.R_reads' HO212.out).2.1); rintro e w' ⟨rfl, ⟨nd, rfl⟩⟩) | ((with_reducible refine gate_dst (N := 48) rfl ?_); (try (refine gate_guard (by rfl) ?_; dsimp only)); refine Kd.R_lit (Kd.int .u64) _ 22 ?hg (N := 48) ?hd (xs := ([6, 6, 1] : List Int)) (inner := [.int .u64 6, .int .u64 6, .int .u64 1]) (ok := fun _ => True) (okp := fun _ => True) ?hr ?hp (fun _ hk => hk) trivial (Below.refl _ _) (Nat.le_refl _) (by simp) ?_; (case hd => rfl); (case hg => rfl); (case hr => first | (go_simp; done) | (go_simp; rfl)); (case hp => exact (Reps.one (show Kd.M (Kd.int .u64) _ _ _ 6 [.int .u64 6] from rfl) (Reps.one (show Kd.M (Kd.int .u64) _ _ _ 6 [.int .u64 6] from rfl) (Reps.one (show Kd.M (Kd.int .u64) _ _ _ 1 [.int .u64 1] from rfl) (Reps.none _ _))))); intro v235 w29 ho30 hb hg_ hnew_; clear hg_ hnew_; (first | rw [← Ny234.out] at ho30 | (simp only [Int.reduceToNat] at ho30; rw [← Ny234.out] at ho30)); have n0_ := Aside0.mk (Kd.R_elder' (by (with_reducible repeat (first | apply Kd.R_alloc | apply Kd.R_drewN | apply Kd.R_drew)); exact HO212.out) (Kd.R_base ho30) hb); have n1_ := Aside0.mk (Kd.V_elder' (by (with_reducible repeat (first | apply Kd.V_alloc | apply Kd.V_drewN | apply Kd.V_drew)); exact HO215.out) (Kd.R_base ho30) hb); have n2_ := Aside0.mk (Kd.R_elder' (by (with_reducible repeat (first | apply Kd.R_alloc | apply Kd.R_drewN | apply Kd.R_drew)); exact HO224.out) (Kd.R_base ho30) hb); have n3_ := Aside0.mk (Kd.V_elder' (by (with_reducible repeat (first | apply Kd.V_alloc | apply Kd.V_drewN | apply Kd.V_drew)); exact HO227.out) (Kd.R_base ho30) hb); have n4_ := Aside0.mk (Kd.R_elder' (by (with_reducible repeat (first | apply Kd.R_alloc | apply Kd.R_drewN | apply Kd.R_drew)); exact HO231.out) (Kd.R_base ho30) hb); have n5_ := Aside0.mk (Kd.R_lower (Kd.R_new' (Kd.R_new' (Kd.R_new' ho30 (Kd.R_lt (by (with_reducible repeat (first | apply Kd.R_alloc | apply Kd.R_drewN | apply Kd.R_drew)); exact HO212.out))) (Kd.R_lt (by (with_reducible repeat (first | apply Kd.R_alloc | apply Kd.R_drewN | apply Kd.R_drew)); exact HO224.out))) (Kd.R_lt (by (with_reducible repeat (first | apply Kd.R_alloc | apply Kd.R_drewN | apply Kd.R_drew)); exact HO231.out))) (below_size (by repeat (first | (with_reducible first | exact HB.out | apply below_alloc | apply pw_below_drewN | apply below_drew1) | exact HB.out)))); have n6_ := Aside0.mk (Kd.C_below (by repeat (first | (with_reducible exact HR220.out) | (with_reducible refine Kd.C_alloc ?_ _) | (with_reducible refine Kd.C_drewN ?_ _) | (with_reducible refine Kd.C_drew ?_) | exact HR220.out)) hb); have n7_ := Aside0.mk (below_step (by repeat (first | (with_reducible first | exact HB.out | apply below_alloc | apply pw_below_drewN | apply below_drew1) | exact HB.out)) hb); clear HO212; clear HO215; clear HO224; clear HO227; clear HO231; clear HR220; clear HB; have HO212 := n0_; have HO215 := n1_; have HO224 := n2_; have HO227 := n3_; have HO231 := n4_; have HO236 := n5_; have HR220 := n6_; have HB := n7_; clear n0_ n1_ n2_ n3_ n4_ n5_ n6_ n7_; clear hb ho30; obtain ⟨Ao31, co31, eo31⟩ := Kd.V_slice HO227.out; subst eo31; obtain ⟨Ao32, co32, eo32⟩ := Kd.R_slice HO236.out; subst eo32) | (go_at_call 21; (with_reducible refine (affidavitref01_Same.calls k _ _ t225 _ _ y234 true _ ?side1 ?side2 ?side3 ?side4 A12.out).mono ?_); (case side1 => repeat (first | exact (Kd.V_reads' HO227.out).2.2 | (with_reducible refine Kd.C_alloc ?_ _) | (with_reducible refine Kd.C_drewN ?_ _) | (with_reducible refine Kd.C_drew ?_))); (case side2 => exact (Kd.V_reads' HO227.out).2.1); (case side3 => repeat (first | exact (Kd.R_reads' HO236.out).2.2 | (with_reducible refine Kd.C_alloc ?_ _) | (with_reducible refine Kd.C_drewN ?_ _) | (with_reducible refine Kd.C_drew ?_))); (case side4 => exact (Kd.R_reads' HO236.out).2.1); rintro e w' ⟨rfl, ⟨nd, rfl⟩⟩) | (go_at_call 19; (with_reducible refine (series_Obeys.calls k 7 _ _ y210 _ _ t213 true _ ?side1 ?side2 ?side3 ?side4 A14.out).mono ?_); (case side1 => repeat (first | exact (Kd.R_reads' HO212.out).2.2 | (with_reducible refine Kd.C_alloc ?_ _) | (with_reducible refine Kd.C_drewN ?_ _) | (with_reducible refine Kd.C_drew ?_))); (case side2 => exact (Kd.R_reads' HO212.out).2.1); (case side3 => repeat (first | exact (Kd.V_reads' HO215.out).2.2 | (with_reducible refine Kd.C_alloc ?_ _) | (with_reducible refine Kd.C_drewN ?_ _) | (with_reducible refine Kd.C_drew ?_))); (case side4 => exact (Kd.V_reads' HO215.out).2.1); rintro e w33 ⟨rfl, hb⟩; have n0_ := Aside0.mk (Kd.R_below (by (with_reducible repeat (first | apply Kd.R_alloc | apply Kd.R_drewN | apply Kd.R_drew)); exact HO212.out) hb); have n1_ := Aside0.mk (Kd.V_below (by (with_reducible repeat (first | apply Kd.V_alloc | apply Kd.V_drewN | apply Kd.V_drew)); exact HO215.out) hb); have n2_ := Aside0.mk (Kd.R_below (by (with_reducible repeat (first | apply Kd.R_alloc | apply Kd.R_drewN | apply Kd.R_drew)); exact HO224.out) hb); have n3_ := Aside0.mk (Kd.V_below (by (with_reducible repeat (first | apply Kd.V_alloc | apply Kd.V_drewN | apply Kd.V_drew)); exact HO227.out) hb); have n4_ := Aside0.mk (Kd.R_below (by (with_reducible repeat (first | apply Kd.R_alloc | apply Kd.R_drewN | apply Kd.R_drew)); exact HO231.out) hb); have n5_ := Aside0.mk (Kd.R_below (by (with_reducible repeat (first | apply Kd.R_alloc | apply Kd.R_drewN | apply Kd.R_drew)); exact HO236.out) hb); have n6_ := Aside0.mk (Kd.C_below (by repeat (first | (with_reducible exact HR220.out) | (with_reducible refine Kd.C_alloc ?_ _) | (with_reducible refine Kd.C_drewN ?_ _) | (with_reducible refine Kd.C_drew ?_) | exact HR220.out)) hb); have n7_ := Aside0.mk (below_step (by repeat (first | (with_reducible first | exact HB.out | apply below_alloc | apply pw_below_drewN | apply below_drew1) | exact HB.out)) hb); clear HO212; clear HO215; clear HO224; clear HO227; clear HO231; clear HO236; clear HR220; clear HB; have HO212 := n0_; have HO215 := n1_; have HO224 := n2_; have HO227 := n3_; have HO231 := n4_; have HO236 := n5_; have HR220 := n6_; have HB := n7_; clear n0_ n1_ n2_ n3_ n4_ n5_ n6_ n7_; (try clear hb); (try clear hb2); (try clear hk); (try clear hi)) | (go_at_call 18; (with_reducible refine (series_Right.calls k 7 _ _ t213 t239 _ ?side1 ?side2 A16.out).mono ?_); (case side1 => repeat (first | exact (Kd.V_reads' HO215.out).2.2 | (with_reducible refine Kd.C_alloc ?_ _) | (with_reducible refine Kd.C_drewN ?_ _) | (with_reducible refine Kd.C_drew ?_))); (case side2 => exact (Kd.V_reads' HO215.out).2.1); rintro e w' ⟨rfl, ⟨nd, rfl⟩⟩))
                  go_ret
                  exact ⟨by first | rfl | (simp [errW_none, errW_some] <;> rfl) | (simp [*, errW_none, errW_some] <;> rfl), by repeat (first | (with_reducible first | exact HB.out | apply below_alloc | apply pw_below_drewN | apply below_drew1) | exact HB.out)⟩
                · replace c15 := Bool.eq_false_iff.mpr c15
                  subst c15
                  have H1 : (none) = some r := by rw [if_neg (show ¬ (false = true) by decide)] at H; exact H
                  clear H
                  have H := H1
                  clear H1
                  exact absurd H (by simp)
              · replace c13 := Bool.eq_false_iff.mpr c13
                subst c13
                have H1 : (none) = some r := by rw [if_neg (show ¬ (false = true) by decide)] at H; exact H
                clear H
                have H := H1
                clear H1
                exact absurd H (by simp)
            · replace c11 := Bool.eq_false_iff.mpr c11
              subst c11
              have H1 : (none) = some r := by rw [if_neg (show ¬ (false = true) by decide)] at H; exact H
              clear H
              have H := H1
              clear H1
              exact absurd H (by simp)
          · replace c9 := Bool.eq_false_iff.mpr c9
            subst c9
            have H1 : (none) = some r := by rw [if_neg (show ¬ (false = true) by decide)] at H; exact H
            clear H
            have H := H1
            clear H1
            exact absurd H (by simp)
        · rw [if_neg c7] at H
          exact absurd H (by simp)
      · rw [if_neg c6] at H
        exact absurd H (by simp)
    · rw [if_neg c5] at H
      exact absurd H (by simp)
  · rw [if_neg c2] at H
    exact absurd H (by simp)

/-! ### affidavitref01_Right: function 48 -/
def affidavitref01_Right.f (a0 : Int) : Option (Bool) := if a0 > 1 then (some (decide (a0 ≤ 9223372036854775807))) else (some false)
set_option maxHeartbeats 8000000 in
set_option maxRecDepth 100000 in
theorem affidavitref01_Right.calls (a0 : Int) (r : Bool) (w : World) (h : affidavitref01_Right.f a0 = some r) :
    Calls Try.prog 48 #[.int .u64 a0] w fun e w' => e = .returned (.bool r) ∧ Drawn0 w w' := by
  have H : (if a0 > 1 then (some (decide (a0 ≤ 9223372036854775807))) else (some false)) = some r := h
  clear h
  by_cases c2 : a0 > 1
  · rw [if_pos c2] at H
    have c2b0 : decide (1 < a0) = true := decide_eq_true c2
    clear c2
    obtain rfl := Option.some.inj H
    go_enter Try.func48, Try.ntmps48
    go_wp2
    go_ret
    exact ⟨by first | rfl | (simp; done) | (simp [*]; done), by repeat (first | exact Drawn0.refl _ | apply Drawn0.step)⟩
  · rw [if_neg c2] at H
    have c2b0 : decide (1 < a0) = false := decide_eq_false c2
    clear c2
    obtain rfl := Option.some.inj H
    go_enter Try.func48, Try.ntmps48
    go_wp2
    go_ret
    exact ⟨by first | rfl | (simp; done) | (simp [*]; done), by repeat (first | exact Drawn0.refl _ | apply Drawn0.step)⟩

/-! ### affidavitref01_Has: function 23 -/
def affidavitref01_Has.l0 : Nat → Int → List Int → Int → Option (Bool)
  | 0, _, _, _ => none
  | k + 1, x0, x1, x5 => if x5 < (x1.length : Int) then (if 0 ≤ x5 then (if (rd x1 x5) ≥ x0 then (some false) else (affidavitref01_Has.l0 k x0 x1 (wrap64 (x5 + 1)))) else (none)) else ((affidavitref01_Right.f x0).bind fun t241 => (some t241))
def affidavitref01_Has.f (k : Nat) (a0 : Int) (l1 : List Int) : Option (Bool) := affidavitref01_Has.l0 k a0 l1 0
theorem affidavitref01_Has.mono_l : ∀ k, (∀ y0 y1 y2, LeO (affidavitref01_Has.l0 k y0 y1 y2) (affidavitref01_Has.l0 (k + 1) y0 y1 y2))
  | 0 => fun _ _ _ r h => by simp [affidavitref01_Has.l0] at h
  | k + 1 => by
    have ih0 := affidavitref01_Has.mono_l k
    · intro y0 y1 y2
      unfold affidavitref01_Has.l0
      repeat' first
      | (with_reducible exact ih0 _ _ _)
      | (with_reducible exact LeO.refl _)
      | (with_reducible exact LeO.none _)
      | (with_reducible refine LeO.ite ?_ ?_)
      | (with_reducible refine LeO.bind ?_ (fun _ => ?_))
      | exact ih0 _ _ _
      | exact LeO.none _
      | refine LeO.ite ?_ ?_
      | refine LeO.bind ?_ (fun _ => ?_)
theorem affidavitref01_Has.mono : ∀ a0 a1 k, LeO (affidavitref01_Has.f k a0 a1) (affidavitref01_Has.f (k + 1) a0 a1) := by
  intro a0 a1 k
  have ih0 := affidavitref01_Has.mono_l k
  unfold affidavitref01_Has.f
  repeat' first
      | (with_reducible exact ih0 _ _ _)
      | (with_reducible exact LeO.refl _)
      | (with_reducible exact LeO.none _)
      | (with_reducible refine LeO.ite ?_ ?_)
      | (with_reducible refine LeO.bind ?_ (fun _ => ?_))
      | exact ih0 _ _ _
      | exact LeO.none _
      | refine LeO.ite ?_ ?_
      | refine LeO.bind ?_ (fun _ => ?_)
set_option maxHeartbeats 8000000 in
set_option maxRecDepth 100000 in
theorem affidavitref01_Has.calls (k : Nat) (a0 : Int) (A1 : Option Addr) (c1 : Nat) (l1 : List Int) (r : Bool) (w : World) (hr1 : Kd.C (Kd.int .u64) w A1 l1.length l1) (hc1 : l1.length ≤ c1) (h : affidavitref01_Has.f k a0 l1 = some r) :
    Calls Try.prog 23 #[.int .u64 a0, .slice A1 l1.length c1] w fun e w' => e = .returned (.bool r) ∧ Drawn0 w w' := by
  have HR1 := Aside0.mk hr1
  have HC1 := Aside0.mk hc1
  clear hr1 hc1
  have H : (affidavitref01_Has.l0 k a0 l1 0) = some r := h
  clear h
  have H' := Aside0.mk H
  clear H
  go_enter Try.func23, Try.ntmps23
  go_wp2
  go_loopg [5] k (fun kq v5 w' => ∃ (x5_1 : Int), v5 = .int .i64 x5_1 ∧ Aside0 (affidavitref01_Has.l0 kq a0 l1 x5_1 = some r) ∧ Aside0 (kq ≤ k) ∧ Drawn0 w w')
  case atStart => exact ⟨(0), (by first | rfl | (simp; done) | (simp [*]; done)), H', ⟨Nat.le_refl _⟩, by repeat (first | exact Drawn0.refl _ | apply Drawn0.step)⟩
  case round =>
    clear H'
    try clear c1
    try clear c2
    try clear p2
    obtain ⟨x5_1, rfl, HA, HK1, ⟨m1, rfl⟩⟩ := hrel
    cases gk with
    | zero => exact absurd HA.out (by simp [affidavitref01_Has.l0])
    | succ k1 =>
      have H := HA.out
      clear HA
      simp only [affidavitref01_Has.l0] at H
      by_cases c3 : x5_1 < (l1.length : Int)
      · rw [if_pos c3] at H
        have c3b0 : decide (x5_1 < (l1.length : Int)) = true := decide_eq_true c3
        clear c3
        by_cases c4 : 0 ≤ x5_1
        · rw [if_pos c4] at H
          have c4b0 : decide (0 ≤ x5_1) = true := decide_eq_true c4
          clear c4
          by_cases c5 : (rd l1 x5_1) ≥ a0
          · rw [if_pos c5] at H
            have c5b0 : decide (a0 ≤ (rd l1 x5_1)) = true := decide_eq_true c5
            clear c5
            obtain rfl := Option.some.inj H
            have p240 : 0 ≤ (x5_1 : Int) := of_decide_eq_true (by first | (with_reducible assumption) | assumption)
            have q240 : x5_1 < (l1.length : Int) := of_decide_eq_true (by first | (with_reducible assumption) | assumption)
            obtain ⟨ad240, e240, hx240_0⟩ := Kd.at_int HR1.out x5_1 p240 q240
            cases e240
            replace p240 := eq_true p240
            replace q240 := eq_true q240
            go_wp2
            go_ret
            exact ⟨by first | rfl | (simp; done) | (simp [*]; done), by repeat (first | exact Drawn0.refl _ | apply Drawn0.step)⟩
          · rw [if_neg c5] at H
            have c5b0 : decide (a0 ≤ (rd l1 x5_1)) = false := decide_eq_false c5
            clear c5
            have H' := Aside0.mk H
            clear H
            have p240 : 0 ≤ (x5_1 : Int) := of_decide_eq_true (by first | (with_reducible assumption) | assumption)
            have q240 : x5_1 < (l1.length : Int) := of_decide_eq_true (by first | (with_reducible assumption) | assumption)
            obtain ⟨ad240, e240, hx240_0⟩ := Kd.at_int HR1.out x5_1 p240 q240
            cases e240
            replace p240 := eq_true p240
            replace q240 := eq_true q240
            go_wp2
            go_roundg k1
            case measure => have := HK1.out; omega
            case rel => exact ⟨(wrap64 (x5_1 + 1)), (by first | rfl | (simp; done) | (simp [*]; done)), H', ⟨by have := HK1.out; omega⟩, by repeat (first | exact Drawn0.refl _ | apply Drawn0.step)⟩
        · rw [if_neg c4] at H
          exact absurd H (by simp)
      · rw [if_neg c3] at H
        have c3b0 : decide (x5_1 < (l1.length : Int)) = false := decide_eq_false c3
        clear c3
        replace H := Option.bind_eq_some_iff.mp H
        obtain ⟨t241, A60, H⟩ := H
        replace H : (some t241) = some r := H
        have A6 := Aside0.mk A60
        clear A60
        obtain rfl := Option.some.inj H
        go_wp2_with (first | ((with_reducible refine gate_callee (f := 48) rfl ?_); refine goesL_ (some 19) rfl rfl Try.func48 (by kernel_rfl) rfl #[.int .u64 a0] rfl (by (try simp only [List.map_toArray, List.map_cons, List.map_nil]); first | done | rfl | (simp only [List.length_drop, List.length_take]; rfl)) ?_; (with_reducible refine (affidavitref01_Right.calls a0 t241 _ A6.out).mono ?_); rintro e w' ⟨rfl, ⟨nd, rfl⟩⟩; refine ⟨_, rfl, ?_⟩))
        go_ret
        exact ⟨by first | rfl | (simp; done) | (simp [*]; done), by repeat (first | exact Drawn0.refl _ | apply Drawn0.step)⟩

/-! ### affidavitref04_Right: function 15 -/
def affidavitref04_Right.f (k : Nat) (a0 : Int) (l1 : List Int) : Option (Bool) := if (l1.length : Int) > 0 then (if (l1.length : Int) < 258 then ((affidavitref01_Has.f k a0 l1).bind fun t242 => (if t242 = true then (if 0 < (l1.length : Int) then (some ((rd l1 0) == 1)) else (none)) else (some false))) else (some false)) else (some false)
theorem affidavitref04_Right.mono : ∀ a0 a1 k, LeO (affidavitref04_Right.f k a0 a1) (affidavitref04_Right.f (k + 1) a0 a1) := by
  intro a0 a1 k
  unfold affidavitref04_Right.f
  repeat' first
      | (with_reducible exact affidavitref01_Has.mono _ _ _)
      | (with_reducible exact LeO.refl _)
      | (with_reducible exact LeO.none _)
      | (with_reducible refine LeO.ite ?_ ?_)
      | (with_reducible refine LeO.bind ?_ (fun _ => ?_))
      | exact affidavitref01_Has.mono _ _ _
      | exact LeO.none _
      | refine LeO.ite ?_ ?_
      | refine LeO.bind ?_ (fun _ => ?_)
set_option maxHeartbeats 8000000 in
set_option maxRecDepth 100000 in
theorem affidavitref04_Right.calls (k : Nat) (a0 : Int) (A1 : Option Addr) (c1 : Nat) (l1 : List Int) (r : Bool) (w : World) (hr1 : Kd.C (Kd.int .u64) w A1 l1.length l1) (hc1 : l1.length ≤ c1) (h : affidavitref04_Right.f k a0 l1 = some r) :
    Calls Try.prog 15 #[.int .u64 a0, .slice A1 l1.length c1] w fun e w' => e = .returned (.bool r) ∧ Drawn0 w w' := by
  have HR1 := Aside0.mk hr1
  have HC1 := Aside0.mk hc1
  clear hr1 hc1
  have H : (if (l1.length : Int) > 0 then (if (l1.length : Int) < 258 then ((affidavitref01_Has.f k a0 l1).bind fun t242 => (if t242 = true then (if 0 < (l1.length : Int) then (some ((rd l1 0) == 1)) else (none)) else (some false))) else (some false)) else (some false)) = some r := h
  clear h
  by_cases c3 : (l1.length : Int) > 0
  · rw [if_pos c3] at H
    have c3b0 : decide (0 < (l1.length : Int)) = true := decide_eq_true c3
    have c3b1 : decide (0 < l1.length) = true := decide_eq_true (by omega)
    clear c3
    by_cases c4 : (l1.length : Int) < 258
    · rw [if_pos c4] at H
      have c4b0 : decide ((l1.length : Int) < 258) = true := decide_eq_true c4
      have c4b1 : decide (l1.length < 258) = true := decide_eq_true (by omega)
      clear c4
      replace H := Option.bind_eq_some_iff.mp H
      obtain ⟨t242, A50, H⟩ := H
      replace H : (if t242 = true then (if 0 < (l1.length : Int) then (some ((rd l1 0) == 1)) else (none)) else (some false)) = some r := H
      have A5 := Aside0.mk A50
      clear A50
      by_cases c6 : t242 = true
      · subst c6
        have H1 : (if 0 < (l1.length : Int) then (some ((rd l1 0) == 1)) else (none)) = some r := by rw [if_pos rfl] at H; exact H
        clear H
        have H := H1
        clear H1
        by_cases c7 : 0 < (l1.length : Int)
        · rw [if_pos c7] at H
          have c7b0 : decide (0 < (l1.length : Int)) = true := decide_eq_true c7
          have c7b1 : decide (0 < l1.length) = true := decide_eq_true (by omega)
          clear c7
          obtain rfl := Option.some.inj H
          go_enter Try.func15, Try.ntmps15
          go_wp2_with (first | (go_at_call 23; (with_reducible refine (affidavitref01_Has.calls k a0 _ _ l1 true _ ?side1 ?side2 A5.out).mono ?_); (case side1 => repeat (first | exact HR1.out | (with_reducible refine Kd.C_alloc ?_ _) | (with_reducible refine Kd.C_drewN ?_ _) | (with_reducible refine Kd.C_drew ?_))); (case side2 => exact HC1.out); rintro e w' ⟨rfl, ⟨nd, rfl⟩⟩; have p243 : 0 ≤ (0 : Int) := (by omega); have q243 : 0 < (l1.length : Int) := of_decide_eq_true (by first | (with_reducible assumption) | assumption); obtain ⟨ad243, e243, hx243_0⟩ := Kd.at_int HR1.out 0 p243 q243; cases e243; have qi243 : (0 < l1.length) = True := eq_true (by omega); (try rw [show ((0 : Int)).toNat = 0 from rfl] at hx243_0); (try rw [Addr.add_zero'] at hx243_0); replace p243 := eq_true p243; replace q243 := eq_true q243))
          go_ret
          exact ⟨by first | rfl | (simp; done) | (simp [*]; done), by repeat (first | exact Drawn0.refl _ | apply Drawn0.step)⟩
        · rw [if_neg c7] at H
          exact absurd H (by simp)
      · replace c6 := Bool.eq_false_iff.mpr c6
        subst c6
        have H1 : (some false) = some r := by rw [if_neg (show ¬ (false = true) by decide)] at H; exact H
        clear H
        have H := H1
        clear H1
        obtain rfl := Option.some.inj H
        go_enter Try.func15, Try.ntmps15
        go_wp2_with (first | (go_at_call 23; (with_reducible refine (affidavitref01_Has.calls k a0 _ _ l1 false _ ?side1 ?side2 A5.out).mono ?_); (case side1 => repeat (first | exact HR1.out | (with_reducible refine Kd.C_alloc ?_ _) | (with_reducible refine Kd.C_drewN ?_ _) | (with_reducible refine Kd.C_drew ?_))); (case side2 => exact HC1.out); rintro e w' ⟨rfl, ⟨nd, rfl⟩⟩))
        go_ret
        exact ⟨by first | rfl | (simp; done) | (simp [*]; done), by repeat (first | exact Drawn0.refl _ | apply Drawn0.step)⟩
    · rw [if_neg c4] at H
      have c4b0 : decide ((l1.length : Int) < 258) = false := decide_eq_false c4
      have c4b1 : decide (l1.length < 258) = false := decide_eq_false (by omega)
      clear c4
      obtain rfl := Option.some.inj H
      go_enter Try.func15, Try.ntmps15
      go_wp2
      go_ret
      exact ⟨by first | rfl | (simp; done) | (simp [*]; done), by repeat (first | exact Drawn0.refl _ | apply Drawn0.step)⟩
  · rw [if_neg c3] at H
    have c3b0 : decide (0 < (l1.length : Int)) = false := decide_eq_false c3
    have c3b1 : decide (0 < l1.length) = false := decide_eq_false (by omega)
    clear c3
    obtain rfl := Option.some.inj H
    go_enter Try.func15, Try.ntmps15
    go_wp2
    go_ret
    exact ⟨by first | rfl | (simp; done) | (simp [*]; done), by repeat (first | exact Drawn0.refl _ | apply Drawn0.step)⟩

/-! ### affidavitref01_Add: function 49 -/
def affidavitref01_Add.f (a0 : Int) (a1 : Int) (a2 : Int) : Option (Int) := if a0 = 0 then (none) else (some (Int.tmod (IntKind.u64.wrap (a1 + a2)) a0))
set_option maxHeartbeats 8000000 in
set_option maxRecDepth 100000 in
theorem affidavitref01_Add.calls (a0 : Int) (a1 : Int) (a2 : Int) (r : Int) (w : World) (h : affidavitref01_Add.f a0 a1 a2 = some r) :
    Calls Try.prog 49 #[.int .u64 a0, .int .u64 a1, .int .u64 a2] w fun e w' => e = .returned (.int .u64 r) ∧ Drawn0 w w' := by
  have H : (if a0 = 0 then (none) else (some (Int.tmod (IntKind.u64.wrap (a1 + a2)) a0))) = some r := h
  clear h
  by_cases c4 : a0 = 0
  · rw [if_pos c4] at H
    exact absurd H (by simp)
  · rw [if_neg c4] at H
    have c4b0 : (a0 == 0) = false := beq_eq_false_iff_ne.mpr c4
    have c4b1 : (a0 != 0) = true := bne_iff_ne.mpr c4
    obtain rfl := Option.some.inj H
    go_enter Try.func49, Try.ntmps49
    go_wp2
    go_ret
    exact ⟨by first | rfl | (simp; done) | (simp [*]; done), by repeat (first | exact Drawn0.refl _ | apply Drawn0.step)⟩

/-! ### affidavitref01_Mul: function 50 -/
def affidavitref01_Mul.f : Nat → Int → Int → Int → Option (Int)
  | 0, _, _, _ => none
  | k + 1, a0, a1, a2 => if a2 = 0 then (some 0) else ((affidavitref01_Mul.f k a0 a1 (IntKind.u64.wrap (Int.tdiv a2 2))).bind fun t244 => ((affidavitref01_Add.f a0 t244 t244).bind fun t245 => (if (Int.tmod a2 2) = 1 then ((affidavitref01_Add.f a0 t245 a1).bind fun t246 => (some t246)) else (some t245))))
theorem affidavitref01_Mul.mono_l : ∀ k, (∀ y0 y1 y2, LeO (affidavitref01_Mul.f k y0 y1 y2) (affidavitref01_Mul.f (k + 1) y0 y1 y2))
  | 0 => fun _ _ _ r h => by simp [affidavitref01_Mul.f] at h
  | k + 1 => by
    have ih0 := affidavitref01_Mul.mono_l k
    · intro y0 y1 y2
      unfold affidavitref01_Mul.f
      repeat' first
      | (with_reducible exact ih0 _ _ _)
      | (with_reducible exact LeO.refl _)
      | (with_reducible exact LeO.none _)
      | (with_reducible refine LeO.ite ?_ ?_)
      | (with_reducible refine LeO.bind ?_ (fun _ => ?_))
      | exact ih0 _ _ _
      | exact LeO.none _
      | refine LeO.ite ?_ ?_
      | refine LeO.bind ?_ (fun _ => ?_)
theorem affidavitref01_Mul.mono : ∀ a0 a1 a2 k, LeO (affidavitref01_Mul.f k a0 a1 a2) (affidavitref01_Mul.f (k + 1) a0 a1 a2) := by
  intro a0 a1 a2 k
  have ih0 := affidavitref01_Mul.mono_l k
  exact ih0 a0 a1 a2
set_option maxHeartbeats 8000000 in
set_option maxRecDepth 100000 in
theorem affidavitref01_Mul.calls (k : Nat) : ∀ (a0 : Int) (a1 : Int) (a2 : Int) (r : Int) (w : World) (h : affidavitref01_Mul.f k a0 a1 a2 = some r),
    Calls Try.prog 50 #[.int .u64 a0, .int .u64 a1, .int .u64 a2] w fun e w' => e = .returned (.int .u64 r) ∧ Drawn0 w w' := by
  induction k using Nat.strongRecOn with
  | _ k ih =>
  intro a0 a1 a2 r w h
  cases k with
  | zero => exact absurd h (by simp [affidavitref01_Mul.f])
  | succ k =>
  simp only [affidavitref01_Mul.f] at h
  have H : (if a2 = 0 then (some 0) else ((affidavitref01_Mul.f k a0 a1 (IntKind.u64.wrap (Int.tdiv a2 2))).bind fun t244 => ((affidavitref01_Add.f a0 t244 t244).bind fun t245 => (if (Int.tmod a2 2) = 1 then ((affidavitref01_Add.f a0 t245 a1).bind fun t246 => (some t246)) else (some t245))))) = some r := h
  clear h
  by_cases c4 : a2 = 0
  · rw [if_pos c4] at H
    have c4b0 : (a2 == 0) = true := beq_iff_eq.mpr c4
    have c4b1 : (a2 != 0) = false := bne_eq_false_iff_eq.mpr c4
    clear c4
    obtain rfl := Option.some.inj H
    go_enter Try.func50, Try.ntmps50
    go_wp2
    go_ret
    exact ⟨by first | rfl | (simp; done) | (simp [*]; done), by repeat (first | exact Drawn0.refl _ | apply Drawn0.step)⟩
  · rw [if_neg c4] at H
    have c4b0 : (a2 == 0) = false := beq_eq_false_iff_ne.mpr c4
    have c4b1 : (a2 != 0) = true := bne_iff_ne.mpr c4
    replace H := Option.bind_eq_some_iff.mp H
    obtain ⟨t244, A50, H⟩ := H
    replace H : ((affidavitref01_Add.f a0 t244 t244).bind fun t245 => (if (Int.tmod a2 2) = 1 then ((affidavitref01_Add.f a0 t245 a1).bind fun t246 => (some t246)) else (some t245))) = some r := H
    have A5 := Aside0.mk A50
    clear A50
    replace H := Option.bind_eq_some_iff.mp H
    obtain ⟨t245, A60, H⟩ := H
    replace H : (if (Int.tmod a2 2) = 1 then ((affidavitref01_Add.f a0 t245 a1).bind fun t246 => (some t246)) else (some t245)) = some r := H
    have A6 := Aside0.mk A60
    clear A60
    by_cases c7 : (Int.tmod a2 2) = 1
    · rw [if_pos c7] at H
      have c7b0 : ((Int.tmod a2 2) == 1) = true := beq_iff_eq.mpr c7
      have c7b1 : ((Int.tmod a2 2) != 1) = false := bne_eq_false_iff_eq.mpr c7
      clear c7
      replace H := Option.bind_eq_some_iff.mp H
      obtain ⟨t246, A80, H⟩ := H
      replace H : (some t246) = some r := H
      have A8 := Aside0.mk A80
      clear A80
      obtain rfl := Option.some.inj H
      go_enter Try.func50, Try.ntmps50
      go_wp2_with (first | ((with_reducible refine gate_callee (f := 50) rfl ?_); refine goesL_ (some 14) rfl rfl Try.func50 (by kernel_rfl) rfl #[.int .u64 a0, .int .u64 a1, .int .u64 (IntKind.u64.wrap (Int.tdiv a2 2))] rfl (by (try simp only [List.map_toArray, List.map_cons, List.map_nil]); first | done | rfl | (simp only [List.length_drop, List.length_take]; rfl)) ?_; (with_reducible refine (ih k (by omega) a0 a1 (IntKind.u64.wrap (Int.tdiv a2 2)) t244 _ A5.out).mono ?_); rintro e w' ⟨rfl, ⟨nd, rfl⟩⟩; refine ⟨_, rfl, ?_⟩) | ((with_reducible refine gate_callee (f := 49) rfl ?_); refine goesL_ (some 18) rfl rfl Try.func49 (by kernel_rfl) rfl #[.int .u64 a0, .int .u64 t244, .int .u64 t244] rfl (by (try simp only [List.map_toArray, List.map_cons, List.map_nil]); first | done | rfl | (simp only [List.length_drop, List.length_take]; rfl)) ?_; (with_reducible refine (affidavitref01_Add.calls a0 t244 t244 t245 _ A6.out).mono ?_); rintro e w' ⟨rfl, ⟨nd, rfl⟩⟩; refine ⟨_, rfl, ?_⟩) | ((with_reducible refine gate_callee (f := 49) rfl ?_); refine goesL_ (some 25) rfl rfl Try.func49 (by kernel_rfl) rfl #[.int .u64 a0, .int .u64 t245, .int .u64 a1] rfl (by (try simp only [List.map_toArray, List.map_cons, List.map_nil]); first | done | rfl | (simp only [List.length_drop, List.length_take]; rfl)) ?_; (with_reducible refine (affidavitref01_Add.calls a0 t245 a1 t246 _ A8.out).mono ?_); rintro e w' ⟨rfl, ⟨nd, rfl⟩⟩; refine ⟨_, rfl, ?_⟩))
      go_ret
      exact ⟨by first | rfl | (simp; done) | (simp [*]; done), by repeat (first | exact Drawn0.refl _ | apply Drawn0.step)⟩
    · rw [if_neg c7] at H
      have c7b0 : ((Int.tmod a2 2) == 1) = false := beq_eq_false_iff_ne.mpr c7
      have c7b1 : ((Int.tmod a2 2) != 1) = true := bne_iff_ne.mpr c7
      obtain rfl := Option.some.inj H
      go_enter Try.func50, Try.ntmps50
      go_wp2_with (first | ((with_reducible refine gate_callee (f := 50) rfl ?_); refine goesL_ (some 14) rfl rfl Try.func50 (by kernel_rfl) rfl #[.int .u64 a0, .int .u64 a1, .int .u64 (IntKind.u64.wrap (Int.tdiv a2 2))] rfl (by (try simp only [List.map_toArray, List.map_cons, List.map_nil]); first | done | rfl | (simp only [List.length_drop, List.length_take]; rfl)) ?_; (with_reducible refine (ih k (by omega) a0 a1 (IntKind.u64.wrap (Int.tdiv a2 2)) t244 _ A5.out).mono ?_); rintro e w' ⟨rfl, ⟨nd, rfl⟩⟩; refine ⟨_, rfl, ?_⟩) | ((with_reducible refine gate_callee (f := 49) rfl ?_); refine goesL_ (some 18) rfl rfl Try.func49 (by kernel_rfl) rfl #[.int .u64 a0, .int .u64 t244, .int .u64 t244] rfl (by (try simp only [List.map_toArray, List.map_cons, List.map_nil]); first | done | rfl | (simp only [List.length_drop, List.length_take]; rfl)) ?_; (with_reducible refine (affidavitref01_Add.calls a0 t244 t244 t245 _ A6.out).mono ?_); rintro e w' ⟨rfl, ⟨nd, rfl⟩⟩; refine ⟨_, rfl, ?_⟩))
      go_ret
      exact ⟨by first | rfl | (simp; done) | (simp [*]; done), by repeat (first | exact Drawn0.refl _ | apply Drawn0.step)⟩

/-! ### affidavitref04_Sum: function 24 -/
def affidavitref04_Sum.l0 : Nat → Int → List Int → List Int → Int → Int → Int → Option (Int)
  | 0, _, _, _, _, _, _ => none
  | k + 1, x0, x1, x2, x3, x9, x10 => if x10 < (x2.length : Int) then (if (wrap64 (x3 - x10)) ≥ 0 then (if 0 ≤ x10 then (if 0 ≤ (wrap64 (x3 - x10)) then (if (wrap64 (x3 - x10)) < (x1.length : Int) then ((affidavitref01_Mul.f k x0 (rd x2 x10) (rd x1 (wrap64 (x3 - x10)))).bind fun t249 => ((affidavitref01_Add.f x0 x9 t249).bind fun t250 => (affidavitref04_Sum.l0 k x0 x1 x2 x3 t250 (wrap64 (x10 + 1))))) else (none)) else (none)) else (none)) else (affidavitref04_Sum.l0 k x0 x1 x2 x3 x9 (wrap64 (x10 + 1)))) else (some x9)
def affidavitref04_Sum.f (k : Nat) (a0 : Int) (l1 : List Int) (l2 : List Int) (a3 : Int) : Option (Int) := affidavitref04_Sum.l0 k a0 l1 l2 a3 0 0
theorem affidavitref04_Sum.mono_l : ∀ k, (∀ y0 y1 y2 y3 y4 y5, LeO (affidavitref04_Sum.l0 k y0 y1 y2 y3 y4 y5) (affidavitref04_Sum.l0 (k + 1) y0 y1 y2 y3 y4 y5))
  | 0 => fun _ _ _ _ _ _ r h => by simp [affidavitref04_Sum.l0] at h
  | k + 1 => by
    have ih0 := affidavitref04_Sum.mono_l k
    · intro y0 y1 y2 y3 y4 y5
      unfold affidavitref04_Sum.l0
      repeat' first
      | (with_reducible exact ih0 _ _ _ _ _ _)
      | (with_reducible exact affidavitref01_Mul.mono _ _ _ _)
      | (with_reducible exact LeO.refl _)
      | (with_reducible exact LeO.none _)
      | (with_reducible refine LeO.ite ?_ ?_)
      | (with_reducible refine LeO.bind ?_ (fun _ => ?_))
      | exact ih0 _ _ _ _ _ _
      | exact affidavitref01_Mul.mono _ _ _ _
      | exact LeO.none _
      | refine LeO.ite ?_ ?_
      | refine LeO.bind ?_ (fun _ => ?_)
theorem affidavitref04_Sum.mono : ∀ a0 a1 a2 a3 k, LeO (affidavitref04_Sum.f k a0 a1 a2 a3) (affidavitref04_Sum.f (k + 1) a0 a1 a2 a3) := by
  intro a0 a1 a2 a3 k
  have ih0 := affidavitref04_Sum.mono_l k
  unfold affidavitref04_Sum.f
  repeat' first
      | (with_reducible exact ih0 _ _ _ _ _ _)
      | (with_reducible exact affidavitref01_Mul.mono _ _ _ _)
      | (with_reducible exact LeO.refl _)
      | (with_reducible exact LeO.none _)
      | (with_reducible refine LeO.ite ?_ ?_)
      | (with_reducible refine LeO.bind ?_ (fun _ => ?_))
      | exact ih0 _ _ _ _ _ _
      | exact affidavitref01_Mul.mono _ _ _ _
      | exact LeO.none _
      | refine LeO.ite ?_ ?_
      | refine LeO.bind ?_ (fun _ => ?_)
set_option maxHeartbeats 8000000 in
set_option maxRecDepth 100000 in
theorem affidavitref04_Sum.calls (k : Nat) (a0 : Int) (A1 : Option Addr) (c1 : Nat) (l1 : List Int) (A2 : Option Addr) (c2 : Nat) (l2 : List Int) (a3 : Int) (r : Int) (w : World) (hr1 : Kd.C (Kd.int .u64) w A1 l1.length l1) (hc1 : l1.length ≤ c1) (hr2 : Kd.C (Kd.int .u64) w A2 l2.length l2) (hc2 : l2.length ≤ c2) (h : affidavitref04_Sum.f k a0 l1 l2 a3 = some r) :
    Calls Try.prog 24 #[.int .u64 a0, .slice A1 l1.length c1, .slice A2 l2.length c2, .int .i64 a3] w fun e w' => e = .returned (.int .u64 r) ∧ Drawn0 w w' := by
  have HR1 := Aside0.mk hr1
  have HC1 := Aside0.mk hc1
  clear hr1 hc1
  have HR2 := Aside0.mk hr2
  have HC2 := Aside0.mk hc2
  clear hr2 hc2
  have H : (affidavitref04_Sum.l0 k a0 l1 l2 a3 0 0) = some r := h
  clear h
  have H' := Aside0.mk H
  clear H
  go_enter Try.func24, Try.ntmps24
  go_wp2
  repeat (go_quiet (fail); try go_wp2)
  go_loopg [9, 10] k (fun kq v9 v10 w' => ∃ (x9_1 : Int) (x10_1 : Int), v9 = .int .u64 x9_1 ∧ v10 = .int .i64 x10_1 ∧ Aside0 (affidavitref04_Sum.l0 kq a0 l1 l2 a3 x9_1 x10_1 = some r) ∧ Aside0 (kq ≤ k) ∧ Drawn0 w w')
  case atStart => exact ⟨(0), (0), (by first | rfl | (simp; done) | (simp [*]; done)), (by first | rfl | (simp; done) | (simp [*]; done)), H', ⟨Nat.le_refl _⟩, by repeat (first | exact Drawn0.refl _ | apply Drawn0.step)⟩
  case round =>
    clear H'
    try clear c1
    try clear c2
    try clear p2
    obtain ⟨x9_1, x10_1, rfl, rfl, HA, HK1, ⟨m1, rfl⟩⟩ := hrel
    cases gk with
    | zero => exact absurd HA.out (by simp [affidavitref04_Sum.l0])
    | succ k1 =>
      have H := HA.out
      clear HA
      simp only [affidavitref04_Sum.l0] at H
      by_cases c5 : x10_1 < (l2.length : Int)
      · rw [if_pos c5] at H
        have c5b0 : decide (x10_1 < (l2.length : Int)) = true := decide_eq_true c5
        clear c5
        by_cases c6 : (wrap64 (a3 - x10_1)) ≥ 0
        · rw [if_pos c6] at H
          have c6b0 : decide (0 ≤ (wrap64 (a3 - x10_1))) = true := decide_eq_true c6
          clear c6
          by_cases c7 : 0 ≤ x10_1
          · rw [if_pos c7] at H
            have c7b0 : decide (0 ≤ x10_1) = true := decide_eq_true c7
            clear c7
            obtain ⟨ji8, hji8⟩ : ∃ j_ : Int, (wrap64 (a3 - x10_1)) = j_ := ⟨_, rfl⟩
            replace H : (if 0 ≤ (ji8) then (if (ji8) < (l1.length : Int) then ((affidavitref01_Mul.f k1 a0 (rd l2 x10_1) (rd l1 (ji8))).bind fun t249 => ((affidavitref01_Add.f a0 x9_1 t249).bind fun t250 => (affidavitref04_Sum.l0 k1 a0 l1 l2 a3 t250 (wrap64 (x10_1 + 1))))) else (none)) else (none)) = some r := by first | (rw [hji8] at H; exact H) | (simp only [hji8] at H ⊢; exact H)
            (try rw [hji8] at c6b0)
            have hji8w : (IntKind.i64.wrap (a3 - x10_1)) = ji8 := (i64_w _).trans hji8
            by_cases c9 : 0 ≤ (ji8)
            · rw [if_pos c9] at H
              have c9b0 : decide (0 ≤ (ji8)) = true := decide_eq_true c9
              clear c9
              by_cases c10 : (ji8) < (l1.length : Int)
              · rw [if_pos c10] at H
                have c10b0 : decide ((ji8) < (l1.length : Int)) = true := decide_eq_true c10
                clear c10
                replace H := Option.bind_eq_some_iff.mp H
                obtain ⟨t249, A110, H⟩ := H
                replace H : ((affidavitref01_Add.f a0 x9_1 t249).bind fun t250 => (affidavitref04_Sum.l0 k1 a0 l1 l2 a3 t250 (wrap64 (x10_1 + 1)))) = some r := H
                have A11 := Aside0.mk A110
                clear A110
                replace H := Option.bind_eq_some_iff.mp H
                obtain ⟨t250, A120, H⟩ := H
                replace H : (affidavitref04_Sum.l0 k1 a0 l1 l2 a3 t250 (wrap64 (x10_1 + 1))) = some r := H
                have A12 := Aside0.mk A120
                clear A120
                have H' := Aside0.mk H
                clear H
                have p247 : 0 ≤ (x10_1 : Int) := of_decide_eq_true (by first | (with_reducible assumption) | assumption)
                have q247 : x10_1 < (l2.length : Int) := of_decide_eq_true (by first | (with_reducible assumption) | assumption)
                obtain ⟨ad247, e247, hx247_0⟩ := Kd.at_int HR2.out x10_1 p247 q247
                cases e247
                replace p247 := eq_true p247
                replace q247 := eq_true q247
                have p248 : 0 ≤ ((ji8) : Int) := of_decide_eq_true (by first | (with_reducible assumption) | assumption)
                have q248 : (ji8) < (l1.length : Int) := of_decide_eq_true (by first | (with_reducible assumption) | assumption)
                obtain ⟨ad248, e248, hx248_0⟩ := Kd.at_int HR1.out (ji8) p248 q248
                cases e248
                replace p248 := eq_true p248
                replace q248 := eq_true q248
                go_wp2_with (first | (go_at_call 50; (with_reducible refine (affidavitref01_Mul.calls k1 a0 (rd l2 x10_1) (rd l1 (ji8)) t249 _ A11.out).mono ?_); rintro e w' ⟨rfl, ⟨nd, rfl⟩⟩; (try first | exact ⟨rfl, _, World.drewN_drewN _ _ _⟩ | exact ⟨rfl, _, Eq.trans (World.drewN_drewN _ _ _) (congrArg (World.drewN _) (Nat.add_assoc _ _ _))⟩)) | (go_at_call 49; (with_reducible refine (affidavitref01_Add.calls a0 x9_1 t249 t250 _ A12.out).mono ?_); rintro e w' ⟨rfl, ⟨nd, rfl⟩⟩; (try first | exact ⟨rfl, _, World.drewN_drewN _ _ _⟩ | exact ⟨rfl, _, Eq.trans (World.drewN_drewN _ _ _) (congrArg (World.drewN _) (Nat.add_assoc _ _ _))⟩)))
                repeat (go_quiet (first | (go_at_call 50; (with_reducible refine (affidavitref01_Mul.calls k1 a0 (rd l2 x10_1) (rd l1 (ji8)) t249 _ A11.out).mono ?_); rintro e w' ⟨rfl, ⟨nd, rfl⟩⟩; (try first | exact ⟨rfl, _, World.drewN_drewN _ _ _⟩ | exact ⟨rfl, _, Eq.trans (World.drewN_drewN _ _ _) (congrArg (World.drewN _) (Nat.add_assoc _ _ _))⟩)) | (go_at_call 49; (with_reducible refine (affidavitref01_Add.calls a0 x9_1 t249 t250 _ A12.out).mono ?_); rintro e w' ⟨rfl, ⟨nd, rfl⟩⟩; (try first | exact ⟨rfl, _, World.drewN_drewN _ _ _⟩ | exact ⟨rfl, _, Eq.trans (World.drewN_drewN _ _ _) (congrArg (World.drewN _) (Nat.add_assoc _ _ _))⟩))); try go_wp2_with (first | (go_at_call 50; (with_reducible refine (affidavitref01_Mul.calls k1 a0 (rd l2 x10_1) (rd l1 (ji8)) t249 _ A11.out).mono ?_); rintro e w' ⟨rfl, ⟨nd, rfl⟩⟩; (try first | exact ⟨rfl, _, World.drewN_drewN _ _ _⟩ | exact ⟨rfl, _, Eq.trans (World.drewN_drewN _ _ _) (congrArg (World.drewN _) (Nat.add_assoc _ _ _))⟩)) | (go_at_call 49; (with_reducible refine (affidavitref01_Add.calls a0 x9_1 t249 t250 _ A12.out).mono ?_); rintro e w' ⟨rfl, ⟨nd, rfl⟩⟩; (try first | exact ⟨rfl, _, World.drewN_drewN _ _ _⟩ | exact ⟨rfl, _, Eq.trans (World.drewN_drewN _ _ _) (congrArg (World.drewN _) (Nat.add_assoc _ _ _))⟩))))
                go_roundg k1
                case measure => have := HK1.out; omega
                case rel => exact ⟨(t250), (wrap64 (x10_1 + 1)), (by first | rfl | (simp; done) | (simp [*]; done)), (by first | rfl | (simp; done) | (simp [*]; done)), H', ⟨by have := HK1.out; omega⟩, by repeat (first | exact Drawn0.refl _ | apply Drawn0.step)⟩
              · rw [if_neg c10] at H
                exact absurd H (by simp)
            · rw [if_neg c9] at H
              exact absurd H (by simp)
          · rw [if_neg c7] at H
            exact absurd H (by simp)
        · rw [if_neg c6] at H
          have c6b0 : decide (0 ≤ (wrap64 (a3 - x10_1))) = false := decide_eq_false c6
          clear c6
          have H' := Aside0.mk H
          clear H
          go_wp2
          repeat (go_quiet (fail); try go_wp2)
          go_roundg k1
          case measure => have := HK1.out; omega
          case rel => exact ⟨(x9_1), (wrap64 (x10_1 + 1)), (by first | rfl | (simp; done) | (simp [*]; done)), (by first | rfl | (simp; done) | (simp [*]; done)), H', ⟨by have := HK1.out; omega⟩, by repeat (first | exact Drawn0.refl _ | apply Drawn0.step)⟩
      · rw [if_neg c5] at H
        have c5b0 : decide (x10_1 < (l2.length : Int)) = false := decide_eq_false c5
        clear c5
        obtain rfl := Option.some.inj H
        go_wp2
        repeat (go_quiet (fail); try go_wp2)
        go_ret
        exact ⟨by first | rfl | (simp; done) | (simp [*]; done), by repeat (first | exact Drawn0.refl _ | apply Drawn0.step)⟩

/-! ### affidavitref04_Obeys: function 20 -/
mutual
def affidavitref04_Obeys.j0 : Nat → Int → List Int → List Int → Bool → Option (Bool)
  | 0, _, _, _, _ => none
  | k + 1, x0, x1, x2, x17 => if x17 = true then (some false) else (affidavitref04_Obeys.l0 k x0 x1 x2 0)
def affidavitref04_Obeys.l0 : Nat → Int → List Int → List Int → Int → Option (Bool)
  | 0, _, _, _, _ => none
  | k + 1, x0, x1, x2, x7 => if x7 < (x1.length : Int) then (if (wrap64 (x7 + 1)) ≥ (x2.length : Int) then ((affidavitref04_Sum.f k x0 x1 x2 x7).bind fun t253 => (if t253 = 0 then (affidavitref04_Obeys.l0 k x0 x1 x2 (wrap64 (x7 + 1))) else (some false))) else (affidavitref04_Obeys.l0 k x0 x1 x2 (wrap64 (x7 + 1)))) else (some true)
end
def affidavitref04_Obeys.f (k : Nat) (a0 : Int) (l1 : List Int) (l2 : List Int) : Option (Bool) := (affidavitref04_Right.f k a0 l2).bind fun t251 => (if t251 = true then ((affidavitref01_Has.f k a0 l1).bind fun t252 => (affidavitref04_Obeys.j0 k a0 l1 l2 (!t252))) else (affidavitref04_Obeys.j0 k a0 l1 l2 true))
theorem affidavitref04_Obeys.mono_l : ∀ k, (∀ y0 y1 y2 y3, LeO (affidavitref04_Obeys.j0 k y0 y1 y2 y3) (affidavitref04_Obeys.j0 (k + 1) y0 y1 y2 y3)) ∧ (∀ y0 y1 y2 y3, LeO (affidavitref04_Obeys.l0 k y0 y1 y2 y3) (affidavitref04_Obeys.l0 (k + 1) y0 y1 y2 y3))
  | 0 => ⟨fun _ _ _ _ r h => by simp [affidavitref04_Obeys.j0] at h, fun _ _ _ _ r h => by simp [affidavitref04_Obeys.l0] at h⟩
  | k + 1 => by
    obtain ⟨ih0, ih1⟩ := affidavitref04_Obeys.mono_l k
    refine ⟨?_, ?_⟩
    · intro y0 y1 y2 y3
      unfold affidavitref04_Obeys.j0
      repeat' first
      | (with_reducible exact ih0 _ _ _ _)
      | (with_reducible exact ih1 _ _ _ _)
      | (with_reducible exact affidavitref01_Has.mono _ _ _)
      | (with_reducible exact affidavitref04_Right.mono _ _ _)
      | (with_reducible exact affidavitref04_Sum.mono _ _ _ _ _)
      | (with_reducible exact LeO.refl _)
      | (with_reducible exact LeO.none _)
      | (with_reducible refine LeO.ite ?_ ?_)
      | (with_reducible refine LeO.bind ?_ (fun _ => ?_))
      | exact ih0 _ _ _ _
      | exact ih1 _ _ _ _
      | exact affidavitref01_Has.mono _ _ _
      | exact affidavitref04_Right.mono _ _ _
      | exact affidavitref04_Sum.mono _ _ _ _ _
      | exact LeO.none _
      | refine LeO.ite ?_ ?_
      | refine LeO.bind ?_ (fun _ => ?_)
    · intro y0 y1 y2 y3
      unfold affidavitref04_Obeys.l0
      repeat' first
      | (with_reducible exact ih0 _ _ _ _)
      | (with_reducible exact ih1 _ _ _ _)
      | (with_reducible exact affidavitref01_Has.mono _ _ _)
      | (with_reducible exact affidavitref04_Right.mono _ _ _)
      | (with_reducible exact affidavitref04_Sum.mono _ _ _ _ _)
      | (with_reducible exact LeO.refl _)
      | (with_reducible exact LeO.none _)
      | (with_reducible refine LeO.ite ?_ ?_)
      | (with_reducible refine LeO.bind ?_ (fun _ => ?_))
      | exact ih0 _ _ _ _
      | exact ih1 _ _ _ _
      | exact affidavitref01_Has.mono _ _ _
      | exact affidavitref04_Right.mono _ _ _
      | exact affidavitref04_Sum.mono _ _ _ _ _
      | exact LeO.none _
      | refine LeO.ite ?_ ?_
      | refine LeO.bind ?_ (fun _ => ?_)
theorem affidavitref04_Obeys.mono : ∀ a0 a1 a2 k, LeO (affidavitref04_Obeys.f k a0 a1 a2) (affidavitref04_Obeys.f (k + 1) a0 a1 a2) := by
  intro a0 a1 a2 k
  obtain ⟨ih0, ih1⟩ := affidavitref04_Obeys.mono_l k
  unfold affidavitref04_Obeys.f
  repeat' first
      | (with_reducible exact ih0 _ _ _ _)
      | (with_reducible exact ih1 _ _ _ _)
      | (with_reducible exact affidavitref01_Has.mono _ _ _)
      | (with_reducible exact affidavitref04_Right.mono _ _ _)
      | (with_reducible exact affidavitref04_Sum.mono _ _ _ _ _)
      | (with_reducible exact LeO.refl _)
      | (with_reducible exact LeO.none _)
      | (with_reducible refine LeO.ite ?_ ?_)
      | (with_reducible refine LeO.bind ?_ (fun _ => ?_))
      | exact ih0 _ _ _ _
      | exact ih1 _ _ _ _
      | exact affidavitref01_Has.mono _ _ _
      | exact affidavitref04_Right.mono _ _ _
      | exact affidavitref04_Sum.mono _ _ _ _ _
      | exact LeO.none _
      | refine LeO.ite ?_ ?_
      | refine LeO.bind ?_ (fun _ => ?_)
set_option maxHeartbeats 8000000 in
set_option maxRecDepth 100000 in
theorem affidavitref04_Obeys.calls (k : Nat) (a0 : Int) (A1 : Option Addr) (c1 : Nat) (l1 : List Int) (A2 : Option Addr) (c2 : Nat) (l2 : List Int) (r : Bool) (w : World) (hr1 : Kd.C (Kd.int .u64) w A1 l1.length l1) (hc1 : l1.length ≤ c1) (hr2 : Kd.C (Kd.int .u64) w A2 l2.length l2) (hc2 : l2.length ≤ c2) (h : affidavitref04_Obeys.f k a0 l1 l2 = some r) :
    Calls Try.prog 20 #[.int .u64 a0, .slice A1 l1.length c1, .slice A2 l2.length c2] w fun e w' => e = .returned (.bool r) ∧ Drawn0 w w' := by
  have HR1 := Aside0.mk hr1
  have HC1 := Aside0.mk hc1
  clear hr1 hc1
  have HR2 := Aside0.mk hr2
  have HC2 := Aside0.mk hc2
  clear hr2 hc2
  have H : ((affidavitref04_Right.f k a0 l2).bind fun t251 => (if t251 = true then ((affidavitref01_Has.f k a0 l1).bind fun t252 => (affidavitref04_Obeys.j0 k a0 l1 l2 (!t252))) else (affidavitref04_Obeys.j0 k a0 l1 l2 true))) = some r := h
  clear h
  have HC4 := Aside0.mk H
  clear H
  go_enter Try.func20, Try.ntmps20
  go_upto_region 1 with (fail)
  go_cut [17] (fun v17 wc => ∃ (kq : Nat) (x17_3 : Bool), v17 = .bool x17_3 ∧ Aside0 (affidavitref04_Obeys.j0 kq a0 l1 l2 x17_3 = some r) ∧ Aside0 (kq ≤ k) ∧ Drawn0 w wc)
  case first =>
    have H := HC4.out
    clear HC4
    replace H := Option.bind_eq_some_iff.mp H
    obtain ⟨t251, A50, H⟩ := H
    replace H : (if t251 = true then ((affidavitref01_Has.f k a0 l1).bind fun t252 => (affidavitref04_Obeys.j0 k a0 l1 l2 (!t252))) else (affidavitref04_Obeys.j0 k a0 l1 l2 true)) = some r := H
    have A5 := Aside0.mk A50
    clear A50
    by_cases c6 : t251 = true
    · subst c6
      have H1 : ((affidavitref01_Has.f k a0 l1).bind fun t252 => (affidavitref04_Obeys.j0 k a0 l1 l2 (!t252))) = some r := by rw [if_pos rfl] at H; exact H
      clear H
      have H := H1
      clear H1
      replace H := Option.bind_eq_some_iff.mp H
      obtain ⟨t252, A70, H⟩ := H
      replace H : (affidavitref04_Obeys.j0 k a0 l1 l2 (!t252)) = some r := H
      have A7 := Aside0.mk A70
      clear A70
      have H' := Aside0.mk H
      clear H
      go_wp2_with (first | ((with_reducible refine gate_callee (f := 15) rfl ?_); refine goesL_ (some 10) rfl rfl Try.func15 (by kernel_rfl) rfl #[.int .u64 a0, .slice A2 l2.length c2] rfl (by (try simp only [List.map_toArray, List.map_cons, List.map_nil]); first | done | rfl | (simp only [List.length_drop, List.length_take]; rfl)) ?_; (with_reducible refine (affidavitref04_Right.calls k a0 _ _ l2 true _ ?side1 ?side2 A5.out).mono ?_); (case side1 => repeat (first | exact HR2.out | (with_reducible refine Kd.C_alloc ?_ _) | (with_reducible refine Kd.C_drewN ?_ _) | (with_reducible refine Kd.C_drew ?_))); (case side2 => exact HC2.out); rintro e w' ⟨rfl, ⟨nd, rfl⟩⟩; refine ⟨_, rfl, ?_⟩) | (go_at_call 23; (with_reducible refine (affidavitref01_Has.calls k a0 _ _ l1 t252 _ ?side1 ?side2 A7.out).mono ?_); (case side1 => repeat (first | exact HR1.out | (with_reducible refine Kd.C_alloc ?_ _) | (with_reducible refine Kd.C_drewN ?_ _) | (with_reducible refine Kd.C_drew ?_))); (case side2 => exact HC1.out); rintro e w' ⟨rfl, ⟨nd, rfl⟩⟩))
      go_meet
      case rel => exact ⟨_, (!t252), (by first | rfl | (simp; done) | (simp [*]; done)), H', ⟨by first | omega | exact Nat.le_refl _⟩, by repeat (first | exact Drawn0.refl _ | apply Drawn0.step)⟩
    · replace c6 := Bool.eq_false_iff.mpr c6
      subst c6
      have H1 : (affidavitref04_Obeys.j0 k a0 l1 l2 true) = some r := by rw [if_neg (show ¬ (false = true) by decide)] at H; exact H
      clear H
      have H := H1
      clear H1
      have H' := Aside0.mk H
      clear H
      go_wp2_with (first | ((with_reducible refine gate_callee (f := 15) rfl ?_); refine goesL_ (some 10) rfl rfl Try.func15 (by kernel_rfl) rfl #[.int .u64 a0, .slice A2 l2.length c2] rfl (by (try simp only [List.map_toArray, List.map_cons, List.map_nil]); first | done | rfl | (simp only [List.length_drop, List.length_take]; rfl)) ?_; (with_reducible refine (affidavitref04_Right.calls k a0 _ _ l2 false _ ?side1 ?side2 A5.out).mono ?_); (case side1 => repeat (first | exact HR2.out | (with_reducible refine Kd.C_alloc ?_ _) | (with_reducible refine Kd.C_drewN ?_ _) | (with_reducible refine Kd.C_drew ?_))); (case side2 => exact HC2.out); rintro e w' ⟨rfl, ⟨nd, rfl⟩⟩; refine ⟨_, rfl, ?_⟩))
      go_meet
      case rel => exact ⟨_, (true), (by first | rfl | (simp; done) | (simp [*]; done)), H', ⟨by first | omega | exact Nat.le_refl _⟩, by repeat (first | exact Drawn0.refl _ | apply Drawn0.step)⟩
  case rest =>
    clear HC4
    try clear c1
    try clear c2
    try clear p2
    try clear c6
    obtain ⟨kq, x17_3, rfl, HA, HJ3, ⟨mc3, rfl⟩⟩ := hcut
    cases kq with
    | zero => exact absurd HA.out (by simp [affidavitref04_Obeys.j0])
    | succ kj3 =>
      have H := HA.out
      clear HA
      simp only [affidavitref04_Obeys.j0] at H
      by_cases c8 : x17_3 = true
      · subst c8
        have H1 : (some false) = some r := by rw [if_pos rfl] at H; exact H
        clear H
        have H := H1
        clear H1
        obtain rfl := Option.some.inj H
        go_wp2
        go_ret
        exact ⟨by first | rfl | (simp; done) | (simp [*]; done), by repeat (first | exact Drawn0.refl _ | apply Drawn0.step)⟩
      · replace c8 := Bool.eq_false_iff.mpr c8
        subst c8
        have H1 : (affidavitref04_Obeys.l0 kj3 a0 l1 l2 0) = some r := by rw [if_neg (show ¬ (false = true) by decide)] at H; exact H
        clear H
        have H := H1
        clear H1
        have H' := Aside0.mk H
        clear H
        go_wp2
        go_loopg [7] kj3 (fun kq v7 w' => ∃ (x7_2 : Int), v7 = .int .i64 x7_2 ∧ Aside0 (affidavitref04_Obeys.l0 kq a0 l1 l2 x7_2 = some r) ∧ Aside0 (kq ≤ kj3) ∧ Drawn0 w w')
        case atStart => exact ⟨(0), (by first | rfl | (simp; done) | (simp [*]; done)), H', ⟨Nat.le_refl _⟩, by repeat (first | exact Drawn0.refl _ | apply Drawn0.step)⟩
        case round =>
          clear H'
          try clear c1
          try clear c2
          try clear p2
          try clear c3
          try clear c6
          try clear c8
          try clear p2
          obtain ⟨x7_2, rfl, HA, HK2, ⟨m2, rfl⟩⟩ := hrel
          cases gk with
          | zero => exact absurd HA.out (by simp [affidavitref04_Obeys.l0])
          | succ k2 =>
            have H := HA.out
            clear HA
            simp only [affidavitref04_Obeys.l0] at H
            by_cases c9 : x7_2 < (l1.length : Int)
            · rw [if_pos c9] at H
              have c9b0 : decide (x7_2 < (l1.length : Int)) = true := decide_eq_true c9
              clear c9
              by_cases c10 : (wrap64 (x7_2 + 1)) ≥ (l2.length : Int)
              · rw [if_pos c10] at H
                have c10b0 : decide ((l2.length : Int) ≤ (wrap64 (x7_2 + 1))) = true := decide_eq_true c10
                clear c10
                replace H := Option.bind_eq_some_iff.mp H
                obtain ⟨t253, A110, H⟩ := H
                replace H : (if t253 = 0 then (affidavitref04_Obeys.l0 k2 a0 l1 l2 (wrap64 (x7_2 + 1))) else (some false)) = some r := H
                have A11 := Aside0.mk A110
                clear A110
                by_cases c12 : t253 = 0
                · rw [if_pos c12] at H
                  have c12b0 : (t253 == 0) = true := beq_iff_eq.mpr c12
                  have c12b1 : (t253 != 0) = false := bne_eq_false_iff_eq.mpr c12
                  clear c12
                  have H' := Aside0.mk H
                  clear H
                  go_wp2_with (first | (go_at_call 24; (with_reducible refine (affidavitref04_Sum.calls k2 a0 _ _ l1 _ _ l2 x7_2 t253 _ ?side1 ?side2 ?side3 ?side4 A11.out).mono ?_); (case side1 => repeat (first | exact HR1.out | (with_reducible refine Kd.C_alloc ?_ _) | (with_reducible refine Kd.C_drewN ?_ _) | (with_reducible refine Kd.C_drew ?_))); (case side2 => exact HC1.out); (case side3 => repeat (first | exact HR2.out | (with_reducible refine Kd.C_alloc ?_ _) | (with_reducible refine Kd.C_drewN ?_ _) | (with_reducible refine Kd.C_drew ?_))); (case side4 => exact HC2.out); rintro e w' ⟨rfl, ⟨nd, rfl⟩⟩))
                  go_roundg k2
                  case measure => have := HJ3.out; have := HK2.out; omega
                  case rel => exact ⟨(wrap64 (x7_2 + 1)), (by first | rfl | (simp; done) | (simp [*]; done)), H', ⟨by have := HJ3.out; have := HK2.out; omega⟩, by repeat (first | exact Drawn0.refl _ | apply Drawn0.step)⟩
                · rw [if_neg c12] at H
                  have c12b0 : (t253 == 0) = false := beq_eq_false_iff_ne.mpr c12
                  have c12b1 : (t253 != 0) = true := bne_iff_ne.mpr c12
                  obtain rfl := Option.some.inj H
                  go_wp2_with (first | (go_at_call 24; (with_reducible refine (affidavitref04_Sum.calls k2 a0 _ _ l1 _ _ l2 x7_2 t253 _ ?side1 ?side2 ?side3 ?side4 A11.out).mono ?_); (case side1 => repeat (first | exact HR1.out | (with_reducible refine Kd.C_alloc ?_ _) | (with_reducible refine Kd.C_drewN ?_ _) | (with_reducible refine Kd.C_drew ?_))); (case side2 => exact HC1.out); (case side3 => repeat (first | exact HR2.out | (with_reducible refine Kd.C_alloc ?_ _) | (with_reducible refine Kd.C_drewN ?_ _) | (with_reducible refine Kd.C_drew ?_))); (case side4 => exact HC2.out); rintro e w' ⟨rfl, ⟨nd, rfl⟩⟩))
                  go_ret
                  exact ⟨by first | rfl | (simp; done) | (simp [*]; done), by repeat (first | exact Drawn0.refl _ | apply Drawn0.step)⟩
              · rw [if_neg c10] at H
                have c10b0 : decide ((l2.length : Int) ≤ (wrap64 (x7_2 + 1))) = false := decide_eq_false c10
                clear c10
                have H' := Aside0.mk H
                clear H
                go_wp2
                go_roundg k2
                case measure => have := HJ3.out; have := HK2.out; omega
                case rel => exact ⟨(wrap64 (x7_2 + 1)), (by first | rfl | (simp; done) | (simp [*]; done)), H', ⟨by have := HJ3.out; have := HK2.out; omega⟩, by repeat (first | exact Drawn0.refl _ | apply Drawn0.step)⟩
            · rw [if_neg c9] at H
              have c9b0 : decide (x7_2 < (l1.length : Int)) = false := decide_eq_false c9
              clear c9
              obtain rfl := Option.some.inj H
              go_wp2
              go_ret
              exact ⟨by first | rfl | (simp; done) | (simp [*]; done), by repeat (first | exact Drawn0.refl _ | apply Drawn0.step)⟩

end Go.Proofs.Ytffcjgelcdilcaa.PSer

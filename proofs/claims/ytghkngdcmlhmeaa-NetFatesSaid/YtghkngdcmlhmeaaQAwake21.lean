/- Law 21's fixed answer. -/
import Derived.Test.YtghkngdcmlhmeaaQSend
set_option linter.unusedVariables false
set_option linter.unusedSimpArgs false
set_option linter.unusedSectionVars false
namespace Go.Proofs.Ytghkngdcmlhmeaa.Nw
open Go.RowKit Go.Proofs Go.Proofs.Ytghkngdcmlhmeaa.PQu Go.Proofs.YtghkngdcmlhmeaaW.PrintWords Go.Proofs.YtghkngdcmlhmeaaW.PrintLast Go.Proofs.YtghkngdcmlhmeaaW.PrintMore Go.Proofs.Ytghkngdcmlhmeaa.Qp Go.Proofs.Ytghkngdcmlhmeaa.Qs Go.Proofs.Ytghkngdcmlhmeaa.Qn Go.Proofs.Ytghkngdcmlhmeaa.Qw
def aF : List S51 := [⟨false, true, 1, 0⟩]
def aB : List Int := [7]
def aW : List S25 := [⟨1, 0, 1, [7]⟩, ⟨2, 0, 1, [7]⟩]
def aD : List S25 := [⟨1, 0, 1, [7]⟩]
def aR : List S25 := [⟨2, 0, 1, [7]⟩]
def aN : List S25 := []
theorem a_send : sendW 0 0 1 aB [] (fateAt aF 0) = aW := by kernel_rfl
theorem a_d1 : dueD aW (0 + 1) = aD := by kernel_rfl
theorem a_r1 : dueR aW (0 + 1) = aR := by kernel_rfl
theorem a_d2 : dueD aR (1 + 1) = aR := by kernel_rfl
theorem a_r2 : dueR aR (1 + 1) = aN := by kernel_rfl
theorem a_g0 : rightB 0 0 [] aF = true := by kernel_rfl
theorem a_g1 : goesB 0 0 [] aF = true := by kernel_rfl
theorem a_g2 : goesB 0 1 aW aF = true := by kernel_rfl
theorem a_g3 : goesB 1 1 aR aF = true := by kernel_rfl
theorem a_g4 : rightB 2 1 aN aF = true := by kernel_rfl
theorem a_b0 : bndB [] = true := by kernel_rfl
theorem a_b1 : bndB aW = true := by kernel_rfl
theorem a_b2 : bndB aR = true := by kernel_rfl
set_option maxHeartbeats 4000000 in
set_option maxRecDepth 100000 in
theorem awakeC21 (w : World) : Calls Try.prog 21 #[] w fun e w' => e = .returned (.bool true) ∧ Below w.heap.size w w' := by
  have hu44 := Try.underlying44
  have hu51 := Try.underlying51
  have hu25 := Try.underlying25
  go_enter Try.func21, Try.ntmps21
  go_wp2_with ((with_reducible refine gate_dst (N := 10) rfl ?_); refine Aside0.out (p := _) ?_)
  refine Aside0.mk ?_
  refine Kd.N_lit k51 (w0 := w) w.heap.size 51 (by rfl) (N' := 10) rfl (xs := aF) (inner := [.bool false, .bool true, .int .i64 1, .int .i64 0]) (ok := fun _ => True) (okp := fun _ => True) ?hr ?hp (fun _ hk => hk) trivial (Below.refl _ _) (Nat.le_refl _) (by decide) ?_
  case hr => first | (go_simp; done) | (go_simp; rfl)
  case hp => exact Reps.c4 (k51_mkF _ _ (⟨false, true, 1, 0⟩ : S51)) (Reps.none _ _)
  intro v10 w1 hn hb _ _
  have HN := Aside0.mk (And.intro hn hb)
  clear hn hb
  obtain ⟨A10, c10, rfl⟩ := Kd.N_slice HN.out.1
  go_wp2_with ((with_reducible refine gate_dst (N := 11) rfl ?_); refine Aside0.out (p := _) ?_)
  refine Aside0.mk ?_
  refine goesL_ (some 11) rfl rfl Try.func22 (by kernel_rfl) rfl #[.slice A10 aF.length c10] rfl (by (try simp only [List.map_toArray, List.map_cons, List.map_nil, List.append_toArray, List.cons_append, List.nil_append]); first | done | rfl) ?_
  refine (newOk (Kd.N_reads' HN.out.1).2.2 (Kd.N_reads' HN.out.1).2.1 (by decide) a_g0).mono ?_
  rintro e w2 ⟨Af, cf, rfl, hv, hb⟩
  refine ⟨_, rfl, ?_⟩
  have HF := Aside0.mk (Kd.V_bound hv)
  have HB := Aside0.mk (HN.out.2.trans (hb.mono HN.out.2.size))
  have HSF := Aside0.mk hb.size
  clear hv hb
  go_wp2_with ((with_reducible refine gate_dst (N := 1) rfl ?_); refine Aside0.out (p := _) ?_)
  refine Aside0.mk ?_
  refine box_event (by rfl) (N := 1) rfl (cs := #[.int .i64 0, .int .i64 0, .slice none 0 0, .slice none 0 0]) (t := 44) ?hr ?_
  case hr => first | (go_simp; done) | (go_simp; rfl)
  intro g1 hg1 w3 kg1 bg1
  have G1 := Aside0.mk (And.intro hg1 (And.intro kg1 bg1))
  clear hg1 kg1 bg1
  have HS1 := Aside0.mk (show w2.heap.size ≤ g1 ∧ g1 < w3.heap.size from ⟨Nat.le_of_eq G1.out.1.symm, blk_lt G1.out.2.1⟩)
  have HWg := Aside0.mk (show w.heap.size ≤ g1 from Nat.le_trans HB.out.size HS1.out.1)
  have K1 := Aside0.mk G1.out.2.1
  have n_ := Aside0.mk (Kd.V_below HF.out G1.out.2.2)
  clear HF
  have HF := n_
  clear n_
  have n_ := Aside0.mk (HB.out.trans (G1.out.2.2.mono HB.out.size))
  clear HB
  have HB := n_
  clear n_
  clear G1 HN
  go_wp2_with ((with_reducible refine gate_store (t := 44) (p := 1) rfl ?_); refine Aside0.out (p := _) ?_)
  refine Aside0.mk ?_
  refine store_seg [.int .i64 0, .int .i64 0, .slice none 0 0, .slice Af aF.length cf] #[.int .i64 0, .int .i64 0, .slice none 0 0, .slice Af aF.length cf] K1.out rfl rfl rfl rfl rfl rfl (by kernel_rfl) (by simp) (by
    intro q hq
    simp only [List.mem_cons, List.not_mem_nil, or_false] at hq
    first | (rcases hq with rfl | rfl | rfl | rfl <;> rfl) | (subst hq; rfl)) rfl ?_
  intro w4 hk hne hB
  clear K1
  have K1 := Aside0.mk hk
  have n_ := Aside0.mk (hB _ _ HWg.out HB.out)
  clear HB
  have HB := n_
  clear n_
  have n_ := Aside0.mk (Kd.V_step HF.out (fun k hk _ => hne k (by have h1 := hk.2; have h2 := HS1.out; omega)))
  clear HF
  have HF := n_
  clear n_
  clear hk hne hB
  have q0 : w4.cell? ⟨g1, 0, none⟩ = some (.int .i64 0) := blk_cell K1.out 0
  have q1 : w4.cell? ⟨g1, 1, none⟩ = some (.int .i64 0) := blk_cell K1.out 1
  have q2 : w4.cell? ⟨g1, 2, none⟩ = some (.slice none 0 0) := blk_cell K1.out 2
  have q3 : w4.cell? ⟨g1, 3, none⟩ = some (.slice Af aF.length cf) := blk_cell K1.out 3
  go_wp2_with ((with_reducible refine gate_dst (N := 16) rfl ?_); refine Aside0.out (p := _) ?_)
  refine Aside0.mk ?_
  clear q0 q1 q2 q3
  refine Kd.N_lit (Kd.int .u8) (w0 := w4) w4.heap.size 5 (by rfl) (N' := 16) rfl (xs := aB) (inner := [.int .u8 7]) (ok := fun _ => True) (okp := fun _ => True) ?hr ?hp (fun _ hk => hk) trivial (Below.refl _ _) (Nat.le_refl _) (by decide) ?_
  case hr => first | (go_simp; done) | (go_simp; rfl)
  case hp => exact Reps.front (c := [.int .u8 7]) (fun _ _ => rfl) rfl (Reps.none _ _) rfl
  intro v16 w5 hn hb _ _
  obtain ⟨A16, c16, rfl⟩ := Kd.N_slice hn
  have HN := Aside0.mk hn
  have n_ := Aside0.mk ((hb.block _ (blk_lt K1.out)).trans K1.out)
  clear K1
  have K1 := n_
  clear n_
  have n_ := Aside0.mk (HB.out.trans (hb.mono HB.out.size))
  clear HB
  have HB := n_
  clear n_
  have n_ := Aside0.mk (Kd.V_below HF.out hb)
  clear HF
  have HF := n_
  clear n_
  clear hn hb
  go_wp2_with ((with_reducible refine gate_dst (N := 17) rfl ?_); refine Aside0.out (p := _) ?_)
  refine Aside0.mk ?_
  refine goesL_ (some 17) rfl rfl Try.func23 (by kernel_rfl) rfl #[.agg #[.int .i64 0, .int .i64 0, .slice none 0 0, .slice Af aF.length cf], .int .i64 1, .slice A16 aB.length c16] rfl (by (try simp only [List.map_toArray, List.map_cons, List.map_nil, List.append_toArray, List.cons_append, List.nil_append]); first | done | rfl) ?_
  refine (sendC (way := []) (Aw := none) (cw := 0) (Kd.C_nil _ _) (Nat.le_refl _) (Kd.V_reads' HF.out).2.2 (Kd.V_reads' HF.out).2.1 (Kd.N_reads' HN.out).2.2 (Kd.N_reads' HN.out).2.1 (by decide) a_b0 (by decide) a_g1 (Or.inr rfl)).mono ?_
  rw [a_send]
  rintro e w6 ⟨B, d, rfl, hv, hb⟩
  refine ⟨_, rfl, ?_⟩
  have HV := Aside0.mk hv
  have HS5 := Aside0.mk (blk_lt K1.out)
  have n_ := Aside0.mk ((hb.block _ (blk_lt K1.out)).trans K1.out)
  clear K1
  have K1 := n_
  clear n_
  have n_ := Aside0.mk (HB.out.trans (hb.mono HB.out.size))
  clear HB
  have HB := n_
  clear n_
  have n_ := Aside0.mk (Kd.V_below HF.out hb)
  clear HF
  have HF := n_
  clear n_
  clear hv hb HN
  go_wp2_with ((with_reducible refine gate_store (t := 44) (p := 1) rfl ?_); refine Aside0.out (p := _) ?_)
  refine Aside0.mk ?_
  refine store_seg [.int .i64 0, .int .i64 1, .slice B aW.length d, .slice Af aF.length cf] #[.int .i64 0, .int .i64 1, .slice B aW.length d, .slice Af aF.length cf] K1.out rfl rfl rfl rfl rfl rfl (by kernel_rfl) (by simp) (by
    intro q hq
    simp only [List.mem_cons, List.not_mem_nil, or_false] at hq
    first | (rcases hq with rfl | rfl | rfl | rfl <;> rfl) | (subst hq; rfl)) rfl ?_
  intro w7 hk hne hB
  clear K1
  have K1 := Aside0.mk hk
  have n_ := Aside0.mk (hB _ _ HWg.out HB.out)
  clear HB
  have HB := n_
  clear n_
  have n_ := Aside0.mk (Kd.V_step HF.out (fun k hk _ => hne k (by have h1 := hk.2; have h2 := HS1.out; omega)))
  clear HF
  have HF := n_
  clear n_
  have n_ := Aside0.mk (Kd.V_step HV.out (fun k hk _ => hne k (by have h1 : _ ≤ k := hk; have h2 := HS5.out; omega)))
  clear HV
  have HV := n_
  clear n_
  clear hk hne hB
  have q0 : w7.cell? ⟨g1, 0, none⟩ = some (.int .i64 0) := blk_cell K1.out 0
  have q1 : w7.cell? ⟨g1, 1, none⟩ = some (.int .i64 1) := blk_cell K1.out 1
  have q2 : w7.cell? ⟨g1, 2, none⟩ = some (.slice B aW.length d) := blk_cell K1.out 2
  have q3 : w7.cell? ⟨g1, 3, none⟩ = some (.slice Af aF.length cf) := blk_cell K1.out 3
  go_wp2_with ((with_reducible refine gate_dst (N := 22) rfl ?_); refine Aside0.out (p := _) ?_)
  refine Aside0.mk ?_
  refine goesL_ (some 22) rfl rfl Try.func24 (by kernel_rfl) rfl #[.agg #[.int .i64 0, .int .i64 1, .slice B aW.length d, .slice Af aF.length cf]] rfl (by (try simp only [List.map_toArray, List.map_cons, List.map_nil, List.append_toArray, List.cons_append, List.nil_append]); first | done | rfl) ?_
  clear q0 q1 q2 q3
  refine (tickC (Kd.V_reads' HV.out).2.2 (Kd.V_reads' HV.out).2.1 (Kd.V_reads' HF.out).2.2 (Kd.V_reads' HF.out).2.1 (by decide) a_b1 (by decide) a_g2).mono ?_
  rw [a_d1, a_r1]
  rintro e w8 ⟨B2, d2, B3, d3, rfl, hv, hv', hb⟩
  refine ⟨_, rfl, ?_⟩
  clear HV
  have HV := Aside0.mk hv
  have HS7 := Aside0.mk (blk_lt K1.out)
  have n_ := Aside0.mk ((hb.block _ (blk_lt K1.out)).trans K1.out)
  clear K1
  have K1 := n_
  clear n_
  have n_ := Aside0.mk (HB.out.trans (hb.mono HB.out.size))
  clear HB
  have HB := n_
  clear n_
  have n_ := Aside0.mk (Kd.V_below HF.out hb)
  clear HF
  have HF := n_
  clear n_
  clear hv hv' hb
  go_wp2_with ((with_reducible refine gate_store (t := 44) (p := 1) rfl ?_); refine Aside0.out (p := _) ?_)
  refine Aside0.mk ?_
  refine store_seg [.int .i64 1, .int .i64 1, .slice B2 aR.length d2, .slice Af aF.length cf] #[.int .i64 1, .int .i64 1, .slice B2 aR.length d2, .slice Af aF.length cf] K1.out rfl rfl rfl rfl rfl rfl (by kernel_rfl) (by simp) (by
    intro q hq
    simp only [List.mem_cons, List.not_mem_nil, or_false] at hq
    first | (rcases hq with rfl | rfl | rfl | rfl <;> rfl) | (subst hq; rfl)) rfl ?_
  intro w9 hk hne hB
  clear K1
  have K1 := Aside0.mk hk
  have n_ := Aside0.mk (hB _ _ HWg.out HB.out)
  clear HB
  have HB := n_
  clear n_
  have n_ := Aside0.mk (Kd.V_step HF.out (fun k hk _ => hne k (by have h1 := hk.2; have h2 := HS1.out; omega)))
  clear HF
  have HF := n_
  clear n_
  have n_ := Aside0.mk (Kd.V_step HV.out (fun k hk _ => hne k (by have h1 : _ ≤ k := hk; have h2 := HS7.out; omega)))
  clear HV
  have HV := n_
  clear n_
  clear hk hne hB
  have q0 : w9.cell? ⟨g1, 0, none⟩ = some (.int .i64 1) := blk_cell K1.out 0
  have q1 : w9.cell? ⟨g1, 1, none⟩ = some (.int .i64 1) := blk_cell K1.out 1
  have q2 : w9.cell? ⟨g1, 2, none⟩ = some (.slice B2 aR.length d2) := blk_cell K1.out 2
  have q3 : w9.cell? ⟨g1, 3, none⟩ = some (.slice Af aF.length cf) := blk_cell K1.out 3
  go_wp2_with ((with_reducible refine gate_dst (N := 28) rfl ?_); refine Aside0.out (p := _) ?_)
  refine Aside0.mk ?_
  refine goesL_ (some 28) rfl rfl Try.func24 (by kernel_rfl) rfl #[.agg #[.int .i64 1, .int .i64 1, .slice B2 aR.length d2, .slice Af aF.length cf]] rfl (by (try simp only [List.map_toArray, List.map_cons, List.map_nil, List.append_toArray, List.cons_append, List.nil_append]); first | done | rfl) ?_
  clear q0 q1 q2 q3
  refine (tickC (Kd.V_reads' HV.out).2.2 (Kd.V_reads' HV.out).2.1 (Kd.V_reads' HF.out).2.2 (Kd.V_reads' HF.out).2.1 (by decide) a_b2 (by decide) a_g3).mono ?_
  rw [a_d2, a_r2]
  rintro e w10 ⟨B4, d4, B5, d5, rfl, hv, hv', hb⟩
  refine ⟨_, rfl, ?_⟩
  clear HV
  have HV := Aside0.mk hv
  have HV' := Aside0.mk hv'
  have HS9 := Aside0.mk (blk_lt K1.out)
  have n_ := Aside0.mk ((hb.block _ (blk_lt K1.out)).trans K1.out)
  clear K1
  have K1 := n_
  clear n_
  have n_ := Aside0.mk (HB.out.trans (hb.mono HB.out.size))
  clear HB
  have HB := n_
  clear n_
  have n_ := Aside0.mk (Kd.V_below HF.out hb)
  clear HF
  have HF := n_
  clear n_
  clear hv hv' hb
  go_wp2_with ((with_reducible refine gate_store (t := 44) (p := 1) rfl ?_); refine Aside0.out (p := _) ?_)
  refine Aside0.mk ?_
  refine store_seg [.int .i64 2, .int .i64 1, .slice B4 aN.length d4, .slice Af aF.length cf] #[.int .i64 2, .int .i64 1, .slice B4 aN.length d4, .slice Af aF.length cf] K1.out rfl rfl rfl rfl rfl rfl (by kernel_rfl) (by simp) (by
    intro q hq
    simp only [List.mem_cons, List.not_mem_nil, or_false] at hq
    first | (rcases hq with rfl | rfl | rfl | rfl <;> rfl) | (subst hq; rfl)) rfl ?_
  intro w11 hk hne hB
  clear K1
  have K1 := Aside0.mk hk
  have n_ := Aside0.mk (hB _ _ HWg.out HB.out)
  clear HB
  have HB := n_
  clear n_
  have n_ := Aside0.mk (Kd.V_step HF.out (fun k hk _ => hne k (by have h1 := hk.2; have h2 := HS1.out; omega)))
  clear HF
  have HF := n_
  clear n_
  have n_ := Aside0.mk (Kd.V_step HV.out (fun k hk _ => hne k (by have h1 : _ ≤ k := hk; have h2 := HS9.out; omega)))
  clear HV
  have HV := n_
  clear n_
  have n_ := Aside0.mk (Kd.V_step HV'.out (fun k hk _ => hne k (by have h1 : _ ≤ k := hk; have h2 := HS9.out; omega)))
  clear HV'
  have HV' := n_
  clear n_
  clear hk hne hB
  have q0 : w11.cell? ⟨g1, 0, none⟩ = some (.int .i64 2) := blk_cell K1.out 0
  have q1 : w11.cell? ⟨g1, 1, none⟩ = some (.int .i64 1) := blk_cell K1.out 1
  have q2 : w11.cell? ⟨g1, 2, none⟩ = some (.slice B4 aN.length d4) := blk_cell K1.out 2
  have q3 : w11.cell? ⟨g1, 3, none⟩ = some (.slice Af aF.length cf) := blk_cell K1.out 3
  obtain ⟨ad, A9, c9, e, hx0, hx1, hx2, hx3, hl3, hi3⟩ := at_T25 (Kd.V_reads' HV'.out).2.2 0 (by decide) (by decide)
  have ha0 : ad.add ((0 : Int).toNat * 4) = ad := by cases ad; rfl
  rw [ha0] at hx0 hx1 hx2 hx3
  have hz : rd_T25 aR 0 = (⟨2, 0, 1, [7]⟩ : S25) := rfl
  rw [hz] at hx0 hx1 hx2 hx3
  subst e
  have b1 : ((aD.length : Int) == 1) = true := rfl
  have b2 : ((aR.length : Int) == 1) = true := rfl
  have b3 : (0 : Nat) < aR.length := by decide
  have b4 : decide ((0 : Int) < (aR.length : Int)) = true := rfl
  have b5 : (aD.length : Int) = 1 := rfl
  have b6 : (aR.length : Int) = 1 := rfl
  have b7 : aD.length = 1 := rfl
  have b8 : aR.length = 1 := rfl
  clear hl3 hi3 hz ha0
  go_wp2_with ((with_reducible refine gate_dst (N := 83) rfl ?_); refine Aside0.out (p := _) ?_)
  refine Aside0.mk ?_
  refine gate_guard (by rfl) ?_
  dsimp only
  refine goesL_ (some 83) rfl rfl Try.func28 (by kernel_rfl) rfl #[.agg #[.int .i64 2, .int .i64 1, .slice B4 aN.length d4, .slice Af aF.length cf]] rfl (by (try simp only [List.map_toArray, List.map_cons, List.map_nil, List.append_toArray, List.cons_append, List.nil_append]); first | done | rfl) ?_
  clear q0 q1 q2 q3
  clear hx0 hx1 hx2 hx3 b1 b2 b3 b4 b5 b6 b7 b8
  refine (idleC (Kd.V_reads' HV.out).2.2 (Kd.V_reads' HV.out).2.1 (Kd.V_reads' HF.out).2.2 (Kd.V_reads' HF.out).2.1 (by decide) a_g4).mono ?_
  rintro e w12 ⟨rfl, hb⟩
  rw [show decide (aN.length = 0) = true from rfl]
  refine ⟨_, rfl, ?_⟩
  have n_ := Aside0.mk ((hb.block _ (blk_lt K1.out)).trans K1.out)
  clear K1
  have K1 := n_
  clear n_
  have n_ := Aside0.mk (HB.out.trans (hb.mono HB.out.size))
  clear HB
  have HB := n_
  clear n_
  have n_ := Aside0.mk (Kd.V_below HF.out hb)
  clear HF
  have HF := n_
  clear n_
  have n_ := Aside0.mk (Kd.V_below HV.out hb)
  clear HV
  have HV := n_
  clear n_
  clear hb
  have q0 : w12.cell? ⟨g1, 0, none⟩ = some (.int .i64 2) := blk_cell K1.out 0
  have q1 : w12.cell? ⟨g1, 1, none⟩ = some (.int .i64 1) := blk_cell K1.out 1
  have q2 : w12.cell? ⟨g1, 2, none⟩ = some (.slice B4 aN.length d4) := blk_cell K1.out 2
  have q3 : w12.cell? ⟨g1, 3, none⟩ = some (.slice Af aF.length cf) := blk_cell K1.out 3
  go_wp2_with ((with_reducible refine gate_dst (N := 87) rfl ?_); refine Aside0.out (p := _) ?_)
  refine Aside0.mk ?_
  refine gate_guard (by rfl) ?_
  dsimp only
  refine goesL_ (some 87) rfl rfl Try.func25 (by kernel_rfl) rfl #[.agg #[.int .i64 2, .int .i64 1, .slice B4 aN.length d4, .slice Af aF.length cf]] rfl (by (try simp only [List.map_toArray, List.map_cons, List.map_nil, List.append_toArray, List.cons_append, List.nil_append]); first | done | rfl) ?_
  clear q0 q1 q2 q3
  refine (rightC (Kd.V_reads' HV.out).2.2 (Kd.V_reads' HV.out).2.1 (Kd.V_reads' HF.out).2.2 (Kd.V_reads' HF.out).2.1 (by decide)).mono ?_
  rw [a_g4]
  rintro e w13 ⟨rfl, hb⟩
  refine ⟨_, rfl, ?_⟩
  have n_ := Aside0.mk (HB.out.trans (hb.mono HB.out.size))
  clear HB
  have HB := n_
  clear n_
  clear hb
  go_wp2
  go_ret
  exact ⟨rfl, HB.out⟩
end Go.Proofs.Ytghkngdcmlhmeaa.Nw

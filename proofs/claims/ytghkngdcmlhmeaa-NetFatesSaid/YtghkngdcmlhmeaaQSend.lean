/- net.New, net.Send. -/
import Derived.Test.YtghkngdcmlhmeaaQNetw
import Derived.Test.YtghkngdcmlhmeaaPQux4
set_option linter.unusedVariables false
set_option linter.unusedSimpArgs false
set_option linter.unusedSectionVars false
namespace Go.Proofs.Ytghkngdcmlhmeaa.Nw
open Go.RowKit Go.Proofs Go.Proofs.Ytghkngdcmlhmeaa.PQu Go.Proofs.YtghkngdcmlhmeaaW.PrintWords Go.Proofs.YtghkngdcmlhmeaaW.PrintLast Go.Proofs.YtghkngdcmlhmeaaW.PrintMore Go.Proofs.Ytghkngdcmlhmeaa.Qp Go.Proofs.Ytghkngdcmlhmeaa.Qs Go.Proofs.Ytghkngdcmlhmeaa.Qn Go.Proofs.Ytghkngdcmlhmeaa.Qw
theorem cloneF (w : World) (A : Option Addr) (c : Nat) (l : List S51) (hr : Kd.C k51 w A l.length l) (hc : l.length ≤ c) (hl : l.length < 1000000) : Calls Try.prog 37 #[.slice A l.length c] w fun e w' => ∃ B d, e = .returned (.slice B l.length d) ∧ Kd.V k51 51 w' w.heap.size (fun k => w.heap.size ≤ k) (.slice B l.length d) l ∧ Below w.heap.size w w' := by
  have hf : api_Fate_37.f l = some l := by
    unfold api_Fate_37.f
    simp only [Option.bind_some, List.nil_append, List.length_nil]
    rw [if_pos (by omega)]
  refine (api_Fate_37.calls A c l l w hr hc hf).mono ?_
  rintro e w' ⟨v, rfl, hv, hb⟩
  obtain ⟨B, d, rfl⟩ := Kd.R_slice hv
  exact ⟨B, d, rfl, Kd.R_V (base := w.heap.size) (Kd.R_mono (Kd.R_bound hv) (fun k hk => hk.2.1)), hb⟩
theorem cloneB (w : World) (A : Option Addr) (c : Nat) (l : List Int) (hr : Kd.C (Kd.int .u8) w A l.length l) (hc : l.length ≤ c) (hl : l.length < 140737488355328) : Calls Try.prog 40 #[.slice A l.length c] w fun e w' => ∃ B d, e = .returned (.slice B l.length d) ∧ Kd.V (Kd.int .u8) 5 w' w.heap.size (fun k => w.heap.size ≤ k) (.slice B l.length d) l ∧ Below w.heap.size w w' := by
  have hf : bytes_Clone.f l = some l := by
    unfold bytes_Clone.f
    simp only [Option.bind_some, List.nil_append, List.length_nil]
    rw [if_pos (by omega)]
  refine (bytes_Clone.calls A c l l w hr hc hf).mono ?_
  rintro e w' ⟨v, rfl, hv, hb⟩
  obtain ⟨B, d, rfl⟩ := Kd.R_slice hv
  exact ⟨B, d, rfl, Kd.R_V (base := w.heap.size) (Kd.R_mono (Kd.R_bound hv) (fun k hk => hk.2.1)), hb⟩
set_option maxHeartbeats 4000000 in
set_option maxRecDepth 100000 in
theorem newOk {w : World} {Af : Option Addr} {cf : Nat} {fates : List S51} (hrf : Kd.C k51 w Af fates.length fates) (hlf : fates.length ≤ cf) (hl : fates.length < 1000000) (hg : rightB 0 0 [] fates = true) :
    Calls Try.prog 22 #[.slice Af fates.length cf] w fun e w' => ∃ B d, e = .returned (.tuple #[.agg #[.int .i64 0, .int .i64 0, .slice none 0 0, .slice B fates.length d], .int .i64 0]) ∧ Kd.V k51 51 w' w.heap.size (fun k => w.heap.size ≤ k) (.slice B fates.length d) fates ∧ Below w.heap.size w w' := by
  have hu44 := Try.underlying44
  have HR := Aside0.mk (And.intro hrf hg)
  clear hrf hg
  go_enter Try.func22, Try.ntmps22
  go_wp2_with ((with_reducible refine gate_dst (N := 2) rfl ?_); refine Aside0.out (p := _) ?_)
  refine Aside0.mk ?_
  refine box_event (by rfl) (N := 2) rfl (cs := #[.int .i64 0, .int .i64 0, .slice none 0 0, .slice none 0 0]) (t := 44) ?hr ?_
  case hr => first | (go_simp; done) | (go_simp; rfl)
  intro g1 hg1 v1 kg1 bg1
  have G1 := Aside0.mk (And.intro hg1 (And.intro kg1 bg1))
  clear hg1 kg1 bg1
  go_wp2_with ((with_reducible refine gate_dst (N := 6) rfl ?_); refine Aside0.out (p := _) ?_)
  refine Aside0.mk ?_
  refine goesL_ (some 6) rfl rfl Try.func37 (by kernel_rfl) rfl #[.slice Af fates.length cf] rfl (by (try simp only [List.map_toArray, List.map_cons, List.map_nil, List.append_toArray, List.cons_append, List.nil_append]); first | done | rfl) ?_
  refine (cloneF _ Af cf fates (Kd.C_below HR.out.1 G1.out.2.2) hlf hl).mono ?_
  rintro e v2 ⟨B, d, rfl, hv, hb⟩
  refine ⟨_, rfl, ?_⟩
  have HV := Aside0.mk (Kd.V_bound hv)
  have K1 := Aside0.mk ((hb.block _ (blk_lt G1.out.2.1)).trans G1.out.2.1)
  have HB2 := Aside0.mk (G1.out.2.2.trans (hb.mono G1.out.2.2.size))
  have HS := Aside0.mk (show w.heap.size ≤ g1 ∧ g1 < v1.heap.size ∧ v1.heap.size ≤ v2.heap.size from ⟨Nat.le_of_eq G1.out.1.symm, blk_lt G1.out.2.1, hb.size⟩)
  clear hv hb G1
  go_wp2_with ((with_reducible refine gate_dst (N := 4) rfl ?_); refine Aside0.out (p := _) ?_)
  refine Aside0.mk ?_
  refine box_event (by rfl) (N := 4) rfl (cs := #[.int .i64 0, .int .i64 0, .slice none 0 0, .slice none 0 0]) (t := 44) ?hr ?_
  case hr => first | (go_simp; done) | (go_simp; rfl)
  intro g2 hg2 v3 kg2 bg2
  have G2 := Aside0.mk (And.intro hg2 (And.intro kg2 bg2))
  clear hg2 kg2 bg2
  have HS2 := Aside0.mk (show v2.heap.size ≤ g2 from Nat.le_of_eq G2.out.1.symm)
  have n_ := Aside0.mk ((G2.out.2.2.block _ (blk_lt K1.out)).trans K1.out)
  clear K1
  have K1 := n_
  clear n_
  have n_ := Aside0.mk (Kd.V_below HV.out G2.out.2.2)
  clear HV
  have HV := n_
  clear n_
  have n_ := Aside0.mk (HB2.out.trans (G2.out.2.2.mono HB2.out.size))
  clear HB2
  have HB2 := n_
  clear n_
  have K2 := Aside0.mk G2.out.2.1
  clear G2
  go_wp2_with ((with_reducible refine gate_store (t := 44) (p := 4) rfl ?_); refine Aside0.out (p := _) ?_)
  refine Aside0.mk ?_
  refine store_seg [.int .i64 0, .int .i64 0, .slice none 0 0, .slice B fates.length d] #[.int .i64 0, .int .i64 0, .slice none 0 0, .slice B fates.length d] K2.out rfl rfl rfl rfl rfl rfl (by kernel_rfl) (by simp) (by
    intro q hq
    simp only [List.mem_cons, List.not_mem_nil, or_false] at hq
    first | (rcases hq with rfl | rfl | rfl | rfl <;> rfl) | (subst hq; rfl)) rfl ?_
  intro v4 hk hne hB
  clear K2
  have K2 := Aside0.mk hk
  have n_ := Aside0.mk ((hne _ (by have h1 := HS.out; have h2 := HS2.out; omega)).trans K1.out)
  clear K1
  have K1 := n_
  clear n_
  have n_ := Aside0.mk (hB _ _ (by have h1 := HS.out; have h2 := HS2.out; omega) HB2.out)
  clear HB2
  have HB2 := n_
  clear n_
  have n_ := Aside0.mk (Kd.V_step HV.out (fun k hk _ => hne k (by have h0 := hk.2; have h1 := HS.out; have h2 := HS2.out; omega)))
  clear HV
  have HV := n_
  clear n_
  clear hk hne hB
  have q0 : v4.cell? ⟨g2, 0, none⟩ = some (.int .i64 0) := blk_cell K2.out 0
  have q1 : v4.cell? ⟨g2, 1, none⟩ = some (.int .i64 0) := blk_cell K2.out 1
  have q2 : v4.cell? ⟨g2, 2, none⟩ = some (.slice none 0 0) := blk_cell K2.out 2
  have q3 : v4.cell? ⟨g2, 3, none⟩ = some (.slice B fates.length d) := blk_cell K2.out 3
  go_wp2_with ((with_reducible refine gate_dst (N := 9) rfl ?_); refine Aside0.out (p := _) ?_)
  refine Aside0.mk ?_
  refine goesL_ (some 9) rfl rfl Try.func25 (by kernel_rfl) rfl #[.agg #[.int .i64 0, .int .i64 0, .slice none 0 0, .slice B fates.length d]] rfl (by (try simp only [List.map_toArray, List.map_cons, List.map_nil, List.append_toArray, List.cons_append, List.nil_append]); first | done | rfl) ?_
  clear q0 q1 q2 q3
  refine (rightC (way := []) (Aw := none) (cw := 0) (Kd.C_nil _ _) (Nat.le_refl _) (Kd.V_reads' HV.out).2.2 (Kd.V_reads' HV.out).2.1 ⟨by simp, by omega⟩).mono ?_
  rintro e v5 ⟨rfl, hb⟩
  rw [HR.out.2]
  refine ⟨_, rfl, ?_⟩
  have n_ := Aside0.mk ((hb.block _ (blk_lt K1.out)).trans K1.out)
  clear K1
  have K1 := n_
  clear n_
  have n_ := Aside0.mk ((hb.block _ (blk_lt K2.out)).trans K2.out)
  clear K2
  have K2 := n_
  clear n_
  have n_ := Aside0.mk (HB2.out.trans (hb.mono HB2.out.size))
  clear HB2
  have HB2 := n_
  clear n_
  have n_ := Aside0.mk (Kd.V_below HV.out hb)
  clear HV
  have HV := n_
  clear n_
  clear hb
  have q0 : v5.cell? ⟨g2, 0, none⟩ = some (.int .i64 0) := blk_cell K2.out 0
  have q1 : v5.cell? ⟨g2, 1, none⟩ = some (.int .i64 0) := blk_cell K2.out 1
  have q2 : v5.cell? ⟨g2, 2, none⟩ = some (.slice none 0 0) := blk_cell K2.out 2
  have q3 : v5.cell? ⟨g2, 3, none⟩ = some (.slice B fates.length d) := blk_cell K2.out 3
  go_wp2_with ((with_reducible refine gate_store (t := 44) (p := 2) rfl ?_); refine Aside0.out (p := _) ?_)
  refine Aside0.mk ?_
  refine store_seg [.int .i64 0, .int .i64 0, .slice none 0 0, .slice B fates.length d] #[.int .i64 0, .int .i64 0, .slice none 0 0, .slice B fates.length d] K1.out rfl rfl rfl rfl rfl rfl (by kernel_rfl) (by simp) (by
    intro q hq
    simp only [List.mem_cons, List.not_mem_nil, or_false] at hq
    first | (rcases hq with rfl | rfl | rfl | rfl <;> rfl) | (subst hq; rfl)) rfl ?_
  intro v6 hk hne hB
  clear q0 q1 q2 q3
  clear K1
  have K1 := Aside0.mk hk
  have n_ := Aside0.mk (hB _ _ (by have h1 := HS.out; have h2 := HS2.out; omega) HB2.out)
  clear HB2
  have HB2 := n_
  clear n_
  have n_ := Aside0.mk (Kd.V_step HV.out (fun k hk _ => hne k (by have h0 := hk.1; have h1 := HS.out; omega)))
  clear HV
  have HV := n_
  clear n_
  clear hk hne hB
  have q0 : v6.cell? ⟨g1, 0, none⟩ = some (.int .i64 0) := blk_cell K1.out 0
  have q1 : v6.cell? ⟨g1, 1, none⟩ = some (.int .i64 0) := blk_cell K1.out 1
  have q2 : v6.cell? ⟨g1, 2, none⟩ = some (.slice none 0 0) := blk_cell K1.out 2
  have q3 : v6.cell? ⟨g1, 3, none⟩ = some (.slice B fates.length d) := blk_cell K1.out 3
  go_wp2
  have hs := HS.out
  exact bodyPost_ret (v := .tuple #[.agg #[.int .i64 0, .int .i64 0, .slice none 0 0, .slice B fates.length d], .int .i64 0]) (by simp [results, Try.results22, go_sem, q0, q1, q2, q3]) rfl ⟨B, d, rfl, Kd.V_mono (Kd.V_lower HV.out (by omega)) (fun k hk => by have : v1.heap.size ≤ k := hk.1; omega), HB2.out⟩
set_option maxHeartbeats 4000000 in
set_option maxRecDepth 100000 in
theorem newErr {w : World} {Af : Option Addr} {cf : Nat} {fates : List S51} (hrf : Kd.C k51 w Af fates.length fates) (hlf : fates.length ≤ cf) (hl : fates.length < 1000000) (hg : rightB 0 0 [] fates = false) :
    Calls Try.prog 22 #[.slice Af fates.length cf] w fun e w' => e = .returned (.tuple #[.agg #[.int .i64 0, .int .i64 0, .slice none 0 0, .slice none 0 0], .int .i64 1]) ∧ Below w.heap.size w w' := by
  have hu44 := Try.underlying44
  have HR := Aside0.mk (And.intro hrf hg)
  clear hrf hg
  go_enter Try.func22, Try.ntmps22
  go_wp2_with ((with_reducible refine gate_dst (N := 2) rfl ?_); refine Aside0.out (p := _) ?_)
  refine Aside0.mk ?_
  refine box_event (by rfl) (N := 2) rfl (cs := #[.int .i64 0, .int .i64 0, .slice none 0 0, .slice none 0 0]) (t := 44) ?hr ?_
  case hr => first | (go_simp; done) | (go_simp; rfl)
  intro g1 hg1 v1 kg1 bg1
  have G1 := Aside0.mk (And.intro hg1 (And.intro kg1 bg1))
  clear hg1 kg1 bg1
  go_wp2_with ((with_reducible refine gate_dst (N := 6) rfl ?_); refine Aside0.out (p := _) ?_)
  refine Aside0.mk ?_
  refine goesL_ (some 6) rfl rfl Try.func37 (by kernel_rfl) rfl #[.slice Af fates.length cf] rfl (by (try simp only [List.map_toArray, List.map_cons, List.map_nil, List.append_toArray, List.cons_append, List.nil_append]); first | done | rfl) ?_
  refine (cloneF _ Af cf fates (Kd.C_below HR.out.1 G1.out.2.2) hlf hl).mono ?_
  rintro e v2 ⟨B, d, rfl, hv, hb⟩
  refine ⟨_, rfl, ?_⟩
  have HV := Aside0.mk (Kd.V_bound hv)
  have K1 := Aside0.mk ((hb.block _ (blk_lt G1.out.2.1)).trans G1.out.2.1)
  have HB2 := Aside0.mk (G1.out.2.2.trans (hb.mono G1.out.2.2.size))
  have HS := Aside0.mk (show w.heap.size ≤ g1 ∧ g1 < v1.heap.size ∧ v1.heap.size ≤ v2.heap.size from ⟨Nat.le_of_eq G1.out.1.symm, blk_lt G1.out.2.1, hb.size⟩)
  clear hv hb G1
  go_wp2_with ((with_reducible refine gate_dst (N := 4) rfl ?_); refine Aside0.out (p := _) ?_)
  refine Aside0.mk ?_
  refine box_event (by rfl) (N := 4) rfl (cs := #[.int .i64 0, .int .i64 0, .slice none 0 0, .slice none 0 0]) (t := 44) ?hr ?_
  case hr => first | (go_simp; done) | (go_simp; rfl)
  intro g2 hg2 v3 kg2 bg2
  have G2 := Aside0.mk (And.intro hg2 (And.intro kg2 bg2))
  clear hg2 kg2 bg2
  have HS2 := Aside0.mk (show v2.heap.size ≤ g2 from Nat.le_of_eq G2.out.1.symm)
  have n_ := Aside0.mk ((G2.out.2.2.block _ (blk_lt K1.out)).trans K1.out)
  clear K1
  have K1 := n_
  clear n_
  have n_ := Aside0.mk (Kd.V_below HV.out G2.out.2.2)
  clear HV
  have HV := n_
  clear n_
  have n_ := Aside0.mk (HB2.out.trans (G2.out.2.2.mono HB2.out.size))
  clear HB2
  have HB2 := n_
  clear n_
  have K2 := Aside0.mk G2.out.2.1
  clear G2
  go_wp2_with ((with_reducible refine gate_store (t := 44) (p := 4) rfl ?_); refine Aside0.out (p := _) ?_)
  refine Aside0.mk ?_
  refine store_seg [.int .i64 0, .int .i64 0, .slice none 0 0, .slice B fates.length d] #[.int .i64 0, .int .i64 0, .slice none 0 0, .slice B fates.length d] K2.out rfl rfl rfl rfl rfl rfl (by kernel_rfl) (by simp) (by
    intro q hq
    simp only [List.mem_cons, List.not_mem_nil, or_false] at hq
    first | (rcases hq with rfl | rfl | rfl | rfl <;> rfl) | (subst hq; rfl)) rfl ?_
  intro v4 hk hne hB
  clear K2
  have K2 := Aside0.mk hk
  have n_ := Aside0.mk ((hne _ (by have h1 := HS.out; have h2 := HS2.out; omega)).trans K1.out)
  clear K1
  have K1 := n_
  clear n_
  have n_ := Aside0.mk (hB _ _ (by have h1 := HS.out; have h2 := HS2.out; omega) HB2.out)
  clear HB2
  have HB2 := n_
  clear n_
  have n_ := Aside0.mk (Kd.V_step HV.out (fun k hk _ => hne k (by have h0 := hk.2; have h1 := HS.out; have h2 := HS2.out; omega)))
  clear HV
  have HV := n_
  clear n_
  clear hk hne hB
  have q0 : v4.cell? ⟨g2, 0, none⟩ = some (.int .i64 0) := blk_cell K2.out 0
  have q1 : v4.cell? ⟨g2, 1, none⟩ = some (.int .i64 0) := blk_cell K2.out 1
  have q2 : v4.cell? ⟨g2, 2, none⟩ = some (.slice none 0 0) := blk_cell K2.out 2
  have q3 : v4.cell? ⟨g2, 3, none⟩ = some (.slice B fates.length d) := blk_cell K2.out 3
  go_wp2_with ((with_reducible refine gate_dst (N := 9) rfl ?_); refine Aside0.out (p := _) ?_)
  refine Aside0.mk ?_
  refine goesL_ (some 9) rfl rfl Try.func25 (by kernel_rfl) rfl #[.agg #[.int .i64 0, .int .i64 0, .slice none 0 0, .slice B fates.length d]] rfl (by (try simp only [List.map_toArray, List.map_cons, List.map_nil, List.append_toArray, List.cons_append, List.nil_append]); first | done | rfl) ?_
  clear q0 q1 q2 q3
  refine (rightC (way := []) (Aw := none) (cw := 0) (Kd.C_nil _ _) (Nat.le_refl _) (Kd.V_reads' HV.out).2.2 (Kd.V_reads' HV.out).2.1 ⟨by simp, by omega⟩).mono ?_
  rintro e v5 ⟨rfl, hb⟩
  rw [HR.out.2]
  refine ⟨_, rfl, ?_⟩
  have n_ := Aside0.mk ((hb.block _ (blk_lt K1.out)).trans K1.out)
  clear K1
  have K1 := n_
  clear n_
  have n_ := Aside0.mk ((hb.block _ (blk_lt K2.out)).trans K2.out)
  clear K2
  have K2 := n_
  clear n_
  have n_ := Aside0.mk (HB2.out.trans (hb.mono HB2.out.size))
  clear HB2
  have HB2 := n_
  clear n_
  have n_ := Aside0.mk (Kd.V_below HV.out hb)
  clear HV
  have HV := n_
  clear n_
  clear hb
  go_wp2_with ((with_reducible refine gate_store (t := 44) (p := 2) rfl ?_); refine Aside0.out (p := _) ?_)
  refine Aside0.mk ?_
  refine store_seg [.int .i64 0, .int .i64 0, .slice none 0 0, .slice none 0 0] #[.int .i64 0, .int .i64 0, .slice none 0 0, .slice none 0 0] K1.out rfl rfl rfl rfl rfl rfl (by kernel_rfl) (by simp) (by
    intro q hq
    simp only [List.mem_cons, List.not_mem_nil, or_false] at hq
    first | (rcases hq with rfl | rfl | rfl | rfl <;> rfl) | (subst hq; rfl)) rfl ?_
  intro v6 hk hne hB
  clear K1
  have K1 := Aside0.mk hk
  have n_ := Aside0.mk (hB _ _ (by have h1 := HS.out; have h2 := HS2.out; omega) HB2.out)
  clear HB2
  have HB2 := n_
  clear n_
  have n_ := Aside0.mk (Kd.V_step HV.out (fun k hk _ => hne k (by have h0 := hk.1; have h1 := HS.out; omega)))
  clear HV
  have HV := n_
  clear n_
  clear hk hne hB
  have q0 : v6.cell? ⟨g1, 0, none⟩ = some (.int .i64 0) := blk_cell K1.out 0
  have q1 : v6.cell? ⟨g1, 1, none⟩ = some (.int .i64 0) := blk_cell K1.out 1
  have q2 : v6.cell? ⟨g1, 2, none⟩ = some (.slice none 0 0) := blk_cell K1.out 2
  have q3 : v6.cell? ⟨g1, 3, none⟩ = some (.slice none 0 0) := blk_cell K1.out 3
  go_wp2
  have hs := HS.out
  exact bodyPost_ret (v := .tuple #[.agg #[.int .i64 0, .int .i64 0, .slice none 0 0, .slice none 0 0], .int .i64 1]) (by simp [results, Try.results22, go_sem, q0, q1, q2, q3]) rfl ⟨rfl, HB2.out⟩
def fl (n m : Nat) : Array Bool := ((List.range n).map (fun i => m.testBit i)).toArray
def se_T : Bool × List (List Nat × List Nat) := (true, [([], []), ([0], [0]), ([], []), ([], []), ([3], [3]), ([1, 2, 4], [1, 2, 4]), ([], []), ([6, 5, 4, 0, 1, 2, 3, 4, 5, 6], [5, 6])])
def se_B : List Nat := [0, 1, 0, 0, 8, 31, 0, 127]
theorem se_tab : rtab .any (opsOf Try.f23 6) = se_T := by kernel_rfl
theorem se_bits : waitsOk se_T.2 se_B = true := by kernel_rfl
def fateAt (fates : List S51) (n : Int) : S51 := if n < fates.length then rd_T51 fates n else z51
def sendW (now sent tt : Int) (bs : List Int) (way : List S25) (f : S51) : List S25 :=
  let t1 := Hp.srt ltL way
  let t2 := if f.f0 = true then t1 else Hp.srt ltL ((⟨now + 1 + f.f2, sent, tt, bs⟩ : S25) :: t1)
  if f.f1 = true then Hp.srt ltL ((⟨now + 1 + f.f3, sent, tt, bs⟩ : S25) :: t2) else t2
theorem rd_at (fates : List S51) {n : Int} (h0 : 0 ≤ n) (h1 : n < fates.length) : rd_T51 fates n ∈ fates := by
  unfold rd_T51
  have : n.toNat < fates.length := by omega
  rw [List.getD_eq_getElem?_getD, List.getElem?_eq_getElem this]
  exact List.getElem_mem _
theorem right_late {now sent : Int} {way : List S25} {fates : List S51} (h : rightB now sent way fates = true) : (0 ≤ now ∧ now ≤ 1099511627776 ∧ 0 ≤ sent ∧ sent ≤ 1099511627776 ∧ way.length ≤ 4096) ∧ ∀ f ∈ fates, 0 ≤ f.f2 ∧ f.f2 ≤ 1000 ∧ 0 ≤ f.f3 ∧ f.f3 ≤ 1000 := by
  unfold rightB at h
  simp only [Bool.and_eq_true, Bool.not_eq_true', List.any_eq_false, wiB, decide_eq_true_eq] at h
  refine ⟨⟨h.1.1, h.1.2, h.2.1.1, h.2.1.2, h.2.2.1⟩, fun f hf => ?_⟩
  have h5 := h.2.2.2.2 f hf
  unfold lateB wiB at h5
  simp at h5
  omega
theorem fate_late {now sent : Int} {way : List S25} {fates : List S51} (h : rightB now sent way fates = true) : 0 ≤ (fateAt fates sent).f2 ∧ (fateAt fates sent).f2 ≤ 1000 ∧ 0 ≤ (fateAt fates sent).f3 ∧ (fateAt fates sent).f3 ≤ 1000 := by
  obtain ⟨h1, h2⟩ := right_late h
  unfold fateAt
  split
  · rename_i hs; exact h2 _ (rd_at fates h1.2.2.1 hs)
  · exact ⟨by decide, by decide, by decide, by decide⟩
structure SAt (w W : World) (now sent tt : Int) (Af : Option Addr) (cf : Nat) (fates : List S51) (f : S51) (bs : List Int) (A5 : Option Addr) (c5 g3 g6 g8 g9 : Nat) (B : Option Addr) (d : Nat) (T : List S25) (at_ : Int) : Prop where
  ba : Below w.heap.size w W
  k3 : W.heap[g3]? = some (.cells #[.int .i64 now, .int .i64 (sent + 1), .slice B T.length d, .slice Af fates.length cf] 44 (0, 0))
  k6 : W.heap[g6]? = some (.cells #[.int .i64 0, .int .i64 0, .slice none 0 0, .slice none 0 0] 44 (0, 0))
  k8 : W.heap[g8]? = some (.cells #[.bool f.f0, .bool f.f1, .int .i64 f.f2, .int .i64 f.f3] 51 (0, 0))
  k9 : W.heap[g9]? = some (.cells #[.int .i64 at_, .int .i64 sent, .int .i64 tt, .slice A5 bs.length c5] 25 (0, 0))
  vb : Kd.V (Kd.int .u8) 5 W w.heap.size (fun k => w.heap.size ≤ k ∧ k ≠ g3 ∧ k ≠ g6 ∧ k ≠ g9) (.slice A5 bs.length c5) bs
  vT : Kd.V k25 25 W w.heap.size (fun k => w.heap.size ≤ k ∧ k ≠ g3 ∧ k ≠ g6 ∧ k ≠ g9) (.slice B T.length d) T
  od : w.heap.size ≤ g3 ∧ g3 < g6 ∧ g6 < g8 ∧ g8 < g9
theorem SAt.step {w W W' : World} {now sent tt : Int} {Af A5 B : Option Addr} {cf c5 d : Nat} {fates : List S51} {f : S51} {bs : List Int} {g3 g6 g8 g9 : Nat} {T : List S25} {at_ : Int} (h : SAt w W now sent tt Af cf fates f bs A5 c5 g3 g6 g8 g9 B d T at_) (hb : Below W.heap.size W W') : SAt w W' now sent tt Af cf fates f bs A5 c5 g3 g6 g8 g9 B d T at_ :=
  ⟨h.ba.trans (hb.mono h.ba.size), (hb.block _ (blk_lt h.k3)).trans h.k3, (hb.block _ (blk_lt h.k6)).trans h.k6, (hb.block _ (blk_lt h.k8)).trans h.k8, (hb.block _ (blk_lt h.k9)).trans h.k9, Kd.V_below h.vb hb, Kd.V_below h.vT hb, h.od⟩
theorem SAt.put9 {w W W' : World} {now sent tt : Int} {Af A5 B : Option Addr} {cf c5 d : Nat} {fates : List S51} {f : S51} {bs : List Int} {g3 g6 g8 g9 : Nat} {T : List S25} {at_ at' : Int} (h : SAt w W now sent tt Af cf fates f bs A5 c5 g3 g6 g8 g9 B d T at_) (hk : W'.heap[g9]? = some (.cells #[.int .i64 at', .int .i64 sent, .int .i64 tt, .slice A5 bs.length c5] 25 (0, 0))) (hne : ∀ k, k ≠ g9 → W'.heap[k]? = W.heap[k]?) (hB : ∀ w0 B, B ≤ g9 → Below B w0 W → Below B w0 W') : SAt w W' now sent tt Af cf fates f bs A5 c5 g3 g6 g8 g9 B d T at' := by
  have h0 := h.od
  exact ⟨hB _ _ (by omega) h.ba, (hne _ (by omega)).trans h.k3, (hne _ (by omega)).trans h.k6, (hne _ (by omega)).trans h.k8, hk, Kd.V_step h.vb (fun k hk _ => hne k hk.2.2.2), Kd.V_step h.vT (fun k hk _ => hne k hk.2.2.2), h0⟩
theorem SAt.put3 {w W W' : World} {now sent tt : Int} {Af A5 B B' : Option Addr} {cf c5 d d' : Nat} {fates : List S51} {f : S51} {bs : List Int} {g3 g6 g8 g9 : Nat} {T T' : List S25} {at_ : Int} (h : SAt w W now sent tt Af cf fates f bs A5 c5 g3 g6 g8 g9 B d T at_) (hv : Kd.V k25 25 W w.heap.size (fun k => w.heap.size ≤ k ∧ k ≠ g3 ∧ k ≠ g6 ∧ k ≠ g9) (.slice B' T'.length d') T') (hk : W'.heap[g3]? = some (.cells #[.int .i64 now, .int .i64 (sent + 1), .slice B' T'.length d', .slice Af fates.length cf] 44 (0, 0))) (hne : ∀ k, k ≠ g3 → W'.heap[k]? = W.heap[k]?) (hB : ∀ w0 B, B ≤ g3 → Below B w0 W → Below B w0 W') : SAt w W' now sent tt Af cf fates f bs A5 c5 g3 g6 g8 g9 B' d' T' at_ := by
  have h0 := h.od
  exact ⟨hB _ _ (by omega) h.ba, hk, (hne _ (by omega)).trans h.k6, (hne _ (by omega)).trans h.k8, (hne _ (by omega)).trans h.k9, Kd.V_step h.vb (fun k hk _ => hne k hk.2.1), Kd.V_step hv (fun k hk _ => hne k hk.2.1), h0⟩
theorem SAt.fresh {w W W' : World} {now sent tt : Int} {Af A5 B B' : Option Addr} {cf c5 d d' : Nat} {fates : List S51} {f : S51} {bs : List Int} {g3 g6 g8 g9 : Nat} {T T' : List S25} {at_ : Int} (h : SAt w W now sent tt Af cf fates f bs A5 c5 g3 g6 g8 g9 B d T at_) (hv : Kd.V k25 25 W' W.heap.size (fun k => W.heap.size ≤ k) (.slice B' T'.length d') T') : Kd.V k25 25 W' w.heap.size (fun k => w.heap.size ≤ k ∧ k ≠ g3 ∧ k ≠ g6 ∧ k ≠ g9) (.slice B' T'.length d') T' := by
  have h1 := blk_lt h.k9
  have h2 := h.od
  have h3 := h.ba.size
  exact Kd.V_mono (Kd.V_lower hv h3) (fun k hk => by have : W.heap.size ≤ k := hk; omega)
set_option maxHeartbeats 8000000 in
set_option maxRecDepth 100000 in
theorem sendC {w : World} {now sent : Int} {Aw Af : Option Addr} {cw cf : Nat} {way : List S25} {fates : List S51} (hrw : Kd.C k25 w Aw way.length way) (hlw : way.length ≤ cw) (hrf : Kd.C k51 w Af fates.length fates) (hlf : fates.length ≤ cf) {tt : Int} {A3 : Option Addr} {c3 : Nat} {bs : List Int} (hr3 : Kd.C (Kd.int .u8) w A3 bs.length bs) (hc3 : bs.length ≤ c3) (hl : way.length + 2 ≤ 4096 ∧ fates.length < 1000000) (hb : bndB way = true) (hbs : bs.length < 140737488355328 ∧ ∀ c ∈ bs, 0 ≤ c ∧ c ≤ 255) (hg : goesB now sent way fates = true) (hk2 : tt = 0 ∨ tt = 1) :
    Calls Try.prog 23 #[.agg #[.int .i64 now, .int .i64 sent, .slice Aw way.length cw, .slice Af fates.length cf], .int .i64 tt, .slice A3 bs.length c3] w fun e w' => ∃ B d, e = .returned (.tuple #[.agg #[.int .i64 now, .int .i64 (sent + 1), .slice B (sendW now sent tt bs way (fateAt fates sent)).length d, .slice Af fates.length cf], .int .i64 0]) ∧ Kd.V k25 25 w' w.heap.size (fun k => w.heap.size ≤ k) (.slice B (sendW now sent tt bs way (fateAt fates sent)).length d) (sendW now sent tt bs way (fateAt fates sent)) ∧ Below w.heap.size w w' := by
  have hu44 := Try.underlying44
  have hu51 := Try.underlying51
  have hu25 := Try.underlying25
  have HR := Aside0.mk (And.intro hrw (And.intro hrf (And.intro hr3 hg)))
  have HBS := Aside0.mk (And.intro hb hbs)
  have HRL := Aside0.mk (right_late (goesB_iff.mp hg).1)
  have HFL := Aside0.mk (fate_late (goesB_iff.mp hg).1)
  have HGO := Aside0.mk (goesB_iff.mp hg).2
  clear hrw hrf hr3 hg hb hbs
  go_enter Try.func23, Try.ntmps23
  go_wp2_with ((with_reducible refine gate_dst (N := 3) rfl ?_); refine Aside0.out (p := _) ?_)
  refine Aside0.mk ?_
  refine box_event (by rfl) (N := 3) rfl (cs := #[.int .i64 now, .int .i64 sent, .slice Aw way.length cw, .slice Af fates.length cf]) (t := 44) ?hr ?_
  case hr => first | (go_simp; done) | (go_simp; rfl)
  intro g3 hg3 v1 kg3 bg3
  have G1 := Aside0.mk (And.intro hg3 (And.intro kg3 bg3))
  clear hg3 kg3 bg3
  go_wp2_with ((with_reducible refine gate_dst (N := 6) rfl ?_); refine Aside0.out (p := _) ?_)
  refine Aside0.mk ?_
  refine box_event (by rfl) (N := 6) rfl (cs := #[.int .i64 0, .int .i64 0, .slice none 0 0, .slice none 0 0]) (t := 44) ?hr ?_
  case hr => first | (go_simp; done) | (go_simp; rfl)
  intro g6 hg6 v2 kg6 bg6
  have G2 := Aside0.mk (And.intro hg6 (And.intro kg6 bg6))
  clear hg6 kg6 bg6
  have HB : Aside0 (Below w.heap.size w v2 ∧ w.heap.size ≤ g3 ∧ g3 < g6 ∧ g6 < v2.heap.size) := by
    have e1 := G1.out.2.2
    have e2 := e1.trans (G2.out.2.2.mono e1.size)
    have l1 := blk_lt G1.out.2.1
    have l2 := blk_lt G2.out.2.1
    have a1 := G1.out.1
    have a2 := G2.out.1
    exact ⟨e2, by omega, by omega, l2⟩
  have K3 := Aside0.mk ((G2.out.2.2.block _ (blk_lt G1.out.2.1)).trans G1.out.2.1)
  have K6 := Aside0.mk G2.out.2.1
  clear G1 G2
  have q0 : v2.cell? ⟨g3, 0, none⟩ = some (.int .i64 now) := blk_cell K3.out 0
  have q1 : v2.cell? ⟨g3, 1, none⟩ = some (.int .i64 sent) := blk_cell K3.out 1
  have q2 : v2.cell? ⟨g3, 2, none⟩ = some (.slice Aw way.length cw) := blk_cell K3.out 2
  have q3 : v2.cell? ⟨g3, 3, none⟩ = some (.slice Af fates.length cf) := blk_cell K3.out 3
  go_wp2_with ((with_reducible refine gate_dst (N := 11) rfl ?_); refine Aside0.out (p := _) ?_)
  refine Aside0.mk ?_
  refine goesL_ (some 11) rfl rfl Try.func38 (by kernel_rfl) rfl #[.agg #[.int .i64 now, .int .i64 sent, .slice Aw way.length cw, .slice Af fates.length cf]] rfl (by (try simp only [List.map_toArray, List.map_cons, List.map_nil, List.append_toArray, List.cons_append, List.nil_append]); first | done | rfl) ?_
  clear q0 q1 q2 q3
  refine (goesC (Kd.C_below HR.out.1 HB.out.1) hlw (Kd.C_below HR.out.2.1 HB.out.1) hlf ⟨by have := hl.1; omega, by have := hl.2; omega⟩ HR.out.2.2.2).mono ?_
  rintro e v3 ⟨rfl, hb⟩
  refine ⟨_, rfl, ?_⟩
  have n_ := Aside0.mk ((hb.block _ (blk_lt K3.out)).trans K3.out)
  clear K3
  have K3 := n_
  clear n_
  have n_ := Aside0.mk ((hb.block _ (blk_lt K6.out)).trans K6.out)
  clear K6
  have K6 := n_
  clear n_
  have HB2 := Aside0.mk (HB.out.1.trans (hb.mono HB.out.1.size))
  clear hb
  go_wp2_with ((with_reducible refine gate_dst (N := 15) rfl ?_); refine Aside0.out (p := _) ?_)
  refine Aside0.mk ?_
  refine gate_guard (by rfl) ?_
  dsimp only
  refine goesL_ (some 15) rfl rfl Try.func39 (by kernel_rfl) rfl #[.int .i64 tt] rfl (by (try simp only [List.map_toArray, List.map_cons, List.map_nil, List.append_toArray, List.cons_append, List.nil_append]); first | done | rfl) ?_
  refine (knownC _ _).mono ?_
  rintro e v4 ⟨rfl, hb⟩
  rw [decide_eq_true hk2]
  refine ⟨_, rfl, ?_⟩
  have n_ := Aside0.mk ((hb.block _ (blk_lt K3.out)).trans K3.out)
  clear K3
  have K3 := n_
  clear n_
  have n_ := Aside0.mk ((hb.block _ (blk_lt K6.out)).trans K6.out)
  clear K6
  have K6 := n_
  clear n_
  have n_ := Aside0.mk (HB2.out.trans (hb.mono HB2.out.size))
  clear HB2
  have HB2 := n_
  clear n_
  clear hb
  go_wp2_with ((with_reducible refine gate_dst (N := 8) rfl ?_); refine Aside0.out (p := _) ?_)
  refine Aside0.mk ?_
  refine box_event (by rfl) (N := 8) rfl (cs := #[.bool false, .bool false, .int .i64 0, .int .i64 0]) (t := 51) ?hr ?_
  case hr => first | (go_simp; done) | (go_simp; rfl)
  intro g8 hg8 v5 kg8 bg8
  have G8 := Aside0.mk (And.intro hg8 (And.intro kg8 bg8))
  clear hg8 kg8 bg8
  have n_ := Aside0.mk (And.intro (blk_lt K6.out) (Nat.le_of_eq G8.out.1.symm))
  have HO8 : Aside0 (g6 < g8) := ⟨by have := n_.out; omega⟩
  clear n_
  have K8 := Aside0.mk G8.out.2.1
  have n_ := Aside0.mk ((G8.out.2.2.block _ (blk_lt K3.out)).trans K3.out)
  clear K3
  have K3 := n_
  clear n_
  have n_ := Aside0.mk ((G8.out.2.2.block _ (blk_lt K6.out)).trans K6.out)
  clear K6
  have K6 := n_
  clear n_
  have n_ := Aside0.mk (HB2.out.trans (G8.out.2.2.mono HB2.out.size))
  clear HB2
  have HB2 := n_
  clear n_
  clear G8
  have q0 : v5.cell? ⟨g3, 0, none⟩ = some (.int .i64 now) := blk_cell K3.out 0
  have q1 : v5.cell? ⟨g3, 1, none⟩ = some (.int .i64 sent) := blk_cell K3.out 1
  have q2 : v5.cell? ⟨g3, 2, none⟩ = some (.slice Aw way.length cw) := blk_cell K3.out 2
  have q3 : v5.cell? ⟨g3, 3, none⟩ = some (.slice Af fates.length cf) := blk_cell K3.out 3
  go_upto_if 24 with fail
  clear q0 q1 q2 q3
  go_cut [] (fun wc => Aside0 (Below w.heap.size w wc ∧ wc.heap[g3]? = some (.cells #[.int .i64 now, .int .i64 sent, .slice Aw way.length cw, .slice Af fates.length cf] 44 (0, 0)) ∧ wc.heap[g6]? = some (.cells #[.int .i64 0, .int .i64 0, .slice none 0 0, .slice none 0 0] 44 (0, 0)) ∧ wc.heap[g8]? = some (.cells #[.bool (fateAt fates sent).f0, .bool (fateAt fates sent).f1, .int .i64 (fateAt fates sent).f2, .int .i64 (fateAt fates sent).f3] 51 (0, 0))))
  case first =>
    by_cases hs : sent < (fates.length : Int)
    · have b1 : decide (sent < (fates.length : Int)) = true := decide_eq_true hs
      have hf : fateAt fates sent = rd_T51 fates sent := if_pos hs
      obtain ⟨ad, e, hx0, hx1, hx2, hx3⟩ := at_T51 (Kd.C_below HR.out.2.1 HB2.out) sent HRL.out.1.2.2.1 hs
      rw [← hf] at hx0 hx1 hx2 hx3
      clear hf
      have b0 : (0 : Int) ≤ sent := HRL.out.1.2.2.1
      have b2 : decide (0 ≤ sent) = true := decide_eq_true b0
      subst e
      have q0 : v5.cell? ⟨g3, 0, none⟩ = some (.int .i64 now) := blk_cell K3.out 0
      have q1 : v5.cell? ⟨g3, 1, none⟩ = some (.int .i64 sent) := blk_cell K3.out 1
      have q2 : v5.cell? ⟨g3, 2, none⟩ = some (.slice Aw way.length cw) := blk_cell K3.out 2
      have q3 : v5.cell? ⟨g3, 3, none⟩ = some (.slice (some ad) fates.length cf) := blk_cell K3.out 3
      go_wp2_with ((with_reducible refine gate_store (t := 51) (p := 8) rfl ?_); refine Aside0.out (p := _) ?_)
      refine Aside0.mk ?_
      refine store_seg [.bool (fateAt fates sent).f0, .bool (fateAt fates sent).f1, .int .i64 (fateAt fates sent).f2, .int .i64 (fateAt fates sent).f3] #[.bool (fateAt fates sent).f0, .bool (fateAt fates sent).f1, .int .i64 (fateAt fates sent).f2, .int .i64 (fateAt fates sent).f3] K8.out rfl rfl rfl rfl rfl rfl (by kernel_rfl) (by simp) (by
        intro q hq
        simp only [List.mem_cons, List.not_mem_nil, or_false] at hq
        first | (rcases hq with rfl | rfl | rfl | rfl <;> rfl) | (subst hq; rfl)) rfl ?_
      intro v6 hk hne hB
      clear q0 q1 q2 q3
      have HC := Aside0.mk (show Below w.heap.size w v6 ∧ v6.heap[g3]? = some (.cells #[.int .i64 now, .int .i64 sent, .slice Aw way.length cw, .slice (some ad) fates.length cf] 44 (0, 0)) ∧ v6.heap[g6]? = some (.cells #[.int .i64 0, .int .i64 0, .slice none 0 0, .slice none 0 0] 44 (0, 0)) ∧ v6.heap[g8]? = some (.cells #[.bool (fateAt fates sent).f0, .bool (fateAt fates sent).f1, .int .i64 (fateAt fates sent).f2, .int .i64 (fateAt fates sent).f3] 51 (0, 0)) from ⟨hB _ _ (by have := HB.out; have := HO8.out; omega) HB2.out, (hne _ (by have := HB.out; have := HO8.out; omega)).trans K3.out, (hne _ (by have := HB.out; have := HO8.out; omega)).trans K6.out, hk⟩)
      clear hk hne hB hx0 hx1 hx2 hx3
      go_wp2
      go_meet
      case rel => exact HC
    · have b1 : decide (sent < (fates.length : Int)) = false := decide_eq_false hs
      have hf : fateAt fates sent = z51 := if_neg hs
      go_wp2
      go_meet
      case rel => exact ⟨HB2.out, K3.out, K6.out, by rw [hf]; exact K8.out⟩
  case rest =>
    clear HB2 K3 K6 K8
    obtain ⟨h1, h2, h3, h4⟩ := hcut.out
    have HB2 := Aside0.mk h1
    have K3 := Aside0.mk h2
    have K6 := Aside0.mk h3
    have K8 := Aside0.mk h4
    clear h1 h2 h3 h4 hcut
    generalize hfa : fateAt fates sent = f at K8 HFL
    have HFA := Aside0.mk hfa
    clear hfa
    have HS := Aside0.mk (show w.heap.size ≤ g3 ∧ g3 < g6 ∧ g6 < g8 ∧ g8 < wc.heap.size ∧ w.heap.size ≤ wc.heap.size from ⟨HB.out.2.1, HB.out.2.2.1, HO8.out, blk_lt K8.out, HB2.out.size⟩)
    go_wp2
    refine start_ (n := 8) (S := fun w' => w'.heap[g3]? = some (.cells #[.int .i64 now, .int .i64 sent, .slice Aw way.length cw, .slice Af fates.length cf] 44 (0, 0))) (ds := []) (fl 8 0) (by kernel_rfl) rfl (by kernel_rfl) K3.out (fun hHeld => ?_)
    refine with_tabW se_tab se_bits (fun HT_ HW_ => ?_)
    have hb := below_drew (Below.refl wc.heap.size wc)
    have n_ := Aside0.mk ((hb.block _ (blk_lt K3.out)).trans K3.out)
    clear K3
    have K3 := n_
    clear n_
    have n_ := Aside0.mk ((hb.block _ (blk_lt K6.out)).trans K6.out)
    clear K6
    have K6 := n_
    clear n_
    have n_ := Aside0.mk ((hb.block _ (blk_lt K8.out)).trans K8.out)
    clear K8
    have K8 := n_
    clear n_
    have n_ := Aside0.mk (HB2.out.trans (hb.mono HB2.out.size))
    clear HB2
    have HB2 := n_
    clear n_
    have HS0 : Aside0 (wc.heap.size = wc.drew.heap.size) := ⟨rfl⟩
    clear hb
    generalize wc.drew = wd at HB2 K3 K6 K8 HS0 hHeld ⊢
    rw [HS0.out] at HS
    clear HS0
    refine pure_ (i := 0) (N := some 31) (v := ?_) (a' := ?_) (fl 8 1) rfl rfl (any_of HT_.out (by kernel_rfl)) (fun _ _ _ h => by first | exact h | cases h.1) (Or.inl ⟨by rfl, ?_⟩) ?_ ?_
    rotate_left
    · intro w'
      go_simp
      with_reducible rfl
    rotate_left
    · simp only [Act.put, List.setIfInBounds_toArray, List.set_cons_zero, List.set_cons_succ]
      rfl
    refine take_ (i := 1) (N := some 32) (v := ?_) (a' := ?_) (fl 8 3) rfl rfl (take_ofW HT_.out HW_.out (by kernel_rfl)) (fun _ _ _ h => by first | exact h | cases h.1) (Or.inl ⟨by rfl, ?_⟩) hHeld ?_ ?_
    rotate_left
    · rintro w' s0
      have q0 : w'.cell? ⟨g3, 0, none⟩ = some (.int .i64 now) := blk_cell s0 0
      have q1 : w'.cell? ⟨g3, 1, none⟩ = some (.int .i64 sent) := blk_cell s0 1
      have q2 : w'.cell? ⟨g3, 2, none⟩ = some (.slice Aw way.length cw) := blk_cell s0 2
      have q3 : w'.cell? ⟨g3, 3, none⟩ = some (.slice Af fates.length cf) := blk_cell s0 3
      go_simp
      with_reducible rfl
    rotate_left
    · simp only [Act.put, List.setIfInBounds_toArray, List.set_cons_zero, List.set_cons_succ]
      rfl
    refine pure_ (i := 2) (N := some 33) (v := ?_) (a' := ?_) (fl 8 7) rfl rfl (any_of HT_.out (by kernel_rfl)) (fun _ _ _ h => by first | exact h | cases h.1) (Or.inl ⟨by rfl, ?_⟩) ?_ ?_
    rotate_left
    · intro w'
      go_simp
      with_reducible rfl
    rotate_left
    · simp only [Act.put, List.setIfInBounds_toArray, List.set_cons_zero, List.set_cons_succ]
      rfl
    refine pure_ (i := 3) (N := some 34) (v := ?_) (a' := ?_) (fl 8 15) rfl rfl (any_of HT_.out (by kernel_rfl)) (fun _ _ _ h => by first | exact h | cases h.1) (Or.inl ⟨by rfl, ?_⟩) ?_ ?_
    rotate_left
    · intro w'
      go_simp
      with_reducible rfl
    rotate_left
    · simp only [Act.put, List.setIfInBounds_toArray, List.set_cons_zero, List.set_cons_succ]
      rfl
    refine join_ (σ := Option Addr × Nat × Nat) 1 (fl 8 127) (fun s => [(35, .slice s.1 bs.length s.2.1), (36, .agg #[.int .i64 0, .int .i64 sent, .int .i64 tt, .slice s.1 bs.length s.2.1]), (9, .pointer (some ⟨s.2.2, 0, none⟩))]) (fun s w' => Below wd.heap.size wd w' ∧ wd.heap.size ≤ s.2.2 ∧ w'.heap[s.2.2]? = some (.cells #[.int .i64 0, .int .i64 0, .int .i64 0, .slice none 0 0] 25 (0, 0)) ∧ Kd.V (Kd.int .u8) 5 w' wd.heap.size (fun k => wd.heap.size ≤ k ∧ k ≠ s.2.2) (.slice s.1 bs.length s.2.1) bs) ?_ ?_
    rotate_left
    · intro J
      refine two_ (i := 4) (j := 6) (Ni := some 35) (Nj := some 9) (fl 8 31) (fl 8 79) rfl rfl rfl rfl (two_of HT_.out (by kernel_rfl)) (by decide) (by decide) (fun K hK => ?_) (fun K hK => ?_)
      · refine goes_ Try.func40 (by kernel_rfl) rfl #[.slice A3 bs.length c3] (by rfl) rfl rfl (by (try simp only [List.map_toArray, List.map_cons, List.map_nil, List.append_toArray, List.cons_append, List.nil_append]); first | done | rfl) ?_
        refine (cloneB _ A3 c3 bs (Kd.C_below HR.out.2.2.1 HB2.out) hc3 HBS.out.2.1).mono ?_
        rintro e w1 ⟨A5, c5, rfl, hv, hb⟩
        have HV := Aside0.mk (And.intro hv hb)
        refine ⟨_, rfl, hK.out _ _ (((hb).block _ (blk_lt K3.out)).trans K3.out) (fun hHeld => ?_)⟩
        clear hK K hv hb
        refine norm_ (a' := ?_) ?_ ?_
        rotate_left
        · show Act.put _ (some 35) _ = _
          simp only [Act.put, List.setIfInBounds_toArray, List.set_cons_zero, List.set_cons_succ]
          rfl
        refine pure_ (i := 5) (N := some 36) (v := ?_) (a' := ?_) (fl 8 63) rfl rfl (any_of HT_.out (by kernel_rfl)) (fun _ _ _ h => by first | exact h | cases h.1) (Or.inl ⟨by rfl, ?_⟩) ?_ ?_
        rotate_left
        · intro w'
          go_simp
          with_reducible rfl
        rotate_left
        · simp only [Act.put, List.setIfInBounds_toArray, List.set_cons_zero, List.set_cons_succ]
          rfl
        refine one_ (i := 6) (N := some 9) (fl 8 127) rfl rfl (one_of HT_.out (by kernel_rfl)) (by decide) (fun K hK => ?_)
        refine event_step (by rfl) (v := .pointer (some ⟨w1.heap.size, 0, none⟩)) (w1 := w1.alloc (.cells #[.int .i64 0, .int .i64 0, .int .i64 0, .slice none 0 0] 25)) (by first | (go_simp; done) | (go_simp; rfl)) ?_
        have hb2 := HV.out.2.trans ((below_alloc (Below.refl w1.heap.size w1) (.cells #[.int .i64 0, .int .i64 0, .int .i64 0, .slice none 0 0] 25)).mono HV.out.2.size)
        refine hK.out _ _ (((hb2).block _ (blk_lt K3.out)).trans K3.out) (fun hHeld => ?_)
        clear hK K
        refine norm_ (a' := ?_) ?_ ?_
        rotate_left
        · show Act.put _ (some 9) _ = _
          simp only [Act.put, List.setIfInBounds_toArray, List.set_cons_zero, List.set_cons_succ]
          rfl
        refine norm_ ?_ (J (A5, c5, w1.heap.size) _ ⟨hb2, HV.out.2.size, blk_new w1 _, Kd.V_mono (Kd.V_alloc (Kd.V_bound HV.out.1) _) (fun k hk => ⟨hk.1, by have h1 : k < w1.heap.size := hk.2; show k ≠ w1.heap.size; omega⟩)⟩)
        simp only [putAll, Act.put, List.setIfInBounds_toArray, List.set_cons_zero, List.set_cons_succ]
      · refine event_step (by rfl) (v := .pointer (some ⟨wd.heap.size, 0, none⟩)) (w1 := wd.alloc (.cells #[.int .i64 0, .int .i64 0, .int .i64 0, .slice none 0 0] 25)) (by first | (go_simp; done) | (go_simp; rfl)) ?_
        have hb1 := below_alloc (Below.refl wd.heap.size wd) (.cells #[.int .i64 0, .int .i64 0, .int .i64 0, .slice none 0 0] 25)
        have HB1 := Aside0.mk hb1
        have KN := Aside0.mk (blk_new wd (.cells #[.int .i64 0, .int .i64 0, .int .i64 0, .slice none 0 0] 25))
        refine hK.out _ _ (((hb1).block _ (blk_lt K3.out)).trans K3.out) (fun hHeld => ?_)
        clear hK K hb1
        have HSZ : Aside0 ((wd.alloc (.cells #[.int .i64 0, .int .i64 0, .int .i64 0, .slice none 0 0] 25)).heap.size = wd.heap.size + 1) := ⟨by simp⟩
        generalize wd.alloc (.cells #[.int .i64 0, .int .i64 0, .int .i64 0, .slice none 0 0] 25) = w1 at HB1 KN HSZ hHeld ⊢
        refine norm_ (a' := ?_) ?_ ?_
        rotate_left
        · show Act.put _ (some 9) _ = _
          simp only [Act.put, List.setIfInBounds_toArray, List.set_cons_zero, List.set_cons_succ]
          rfl
        refine one_ (i := 4) (N := some 35) (fl 8 95) rfl rfl (one_of HT_.out (by kernel_rfl)) (by decide) (fun K hK => ?_)
        refine goes_ Try.func40 (by kernel_rfl) rfl #[.slice A3 bs.length c3] (by rfl) rfl rfl (by (try simp only [List.map_toArray, List.map_cons, List.map_nil, List.append_toArray, List.cons_append, List.nil_append]); first | done | rfl) ?_
        refine (cloneB _ A3 c3 bs (Kd.C_below HR.out.2.2.1 (HB2.out.trans (HB1.out.mono HB2.out.size))) hc3 HBS.out.2.1).mono ?_
        rintro e w2 ⟨A5, c5, rfl, hv, hb⟩
        have HV := Aside0.mk (And.intro hv hb)
        refine ⟨_, rfl, hK.out _ _ ((hb.block _ (blk_lt hHeld)).trans hHeld) (fun hHeld => ?_)⟩
        clear hK K hv hb
        refine norm_ (a' := ?_) ?_ ?_
        rotate_left
        · show Act.put _ (some 35) _ = _
          simp only [Act.put, List.setIfInBounds_toArray, List.set_cons_zero, List.set_cons_succ]
          rfl
        refine pure_ (i := 5) (N := some 36) (v := ?_) (a' := ?_) (fl 8 127) rfl rfl (any_of HT_.out (by kernel_rfl)) (fun _ _ _ h => by first | exact h | cases h.1) (Or.inl ⟨by rfl, ?_⟩) ?_ ?_
        rotate_left
        · intro w'
          go_simp
          with_reducible rfl
        rotate_left
        · simp only [Act.put, List.setIfInBounds_toArray, List.set_cons_zero, List.set_cons_succ]
          rfl
        refine norm_ ?_ (J (A5, c5, wd.heap.size) _ ⟨HB1.out.trans (HV.out.2.mono HB1.out.size), Nat.le_refl _, (HV.out.2.block _ (blk_lt KN.out)).trans KN.out, Kd.V_mono (Kd.V_lower HV.out.1 HB1.out.size) (fun k hk => by have h1 : w1.heap.size ≤ k := hk; have h2 := HSZ.out; show wd.heap.size ≤ k ∧ k ≠ wd.heap.size; omega)⟩)
        simp only [putAll, Act.put, List.setIfInBounds_toArray, List.set_cons_zero, List.set_cons_succ]
    rintro ⟨A5, c5, g9⟩ w1 ⟨hb, h9, k9, hv⟩
    have HV := Aside0.mk (show Kd.V (Kd.int .u8) 5 w1 wd.heap.size (fun k => wd.heap.size ≤ k ∧ k ≠ g9) (.slice A5 bs.length c5) bs from hv)
    have HS9 := Aside0.mk (show wd.heap.size ≤ g9 from h9)
    have K9 := Aside0.mk (show w1.heap[g9]? = some (.cells #[.int .i64 0, .int .i64 0, .int .i64 0, .slice none 0 0] 25 (0, 0)) from k9)
    have n_ := Aside0.mk ((hb.block _ (blk_lt K3.out)).trans K3.out)
    clear K3
    have K3 := n_
    clear n_
    have n_ := Aside0.mk ((hb.block _ (blk_lt K6.out)).trans K6.out)
    clear K6
    have K6 := n_
    clear n_
    have n_ := Aside0.mk ((hb.block _ (blk_lt K8.out)).trans K8.out)
    clear K8
    have K8 := n_
    clear n_
    have n_ := Aside0.mk (HB2.out.trans (hb.mono HB2.out.size))
    clear HB2
    have HB2 := n_
    clear n_
    clear hHeld hb h9 k9 hv
    have hHeld := K3.out
    refine norm_ (a' := ?_) ?_ ?_
    rotate_left
    · show putAll _ _ = _
      simp only [putAll, Act.put, List.setIfInBounds_toArray, List.set_cons_zero, List.set_cons_succ]
      rfl
    refine one_ (i := 7) (N := none) (fl 8 255) rfl rfl (one_of HT_.out (by kernel_rfl)) (by decide) (fun K hK => ?_)
    have hst := run_store_run (P := Try.prog) (w := w1) (o := 0) 25 (.agg #[.int .i64 0, .int .i64 sent, .int .i64 tt, .slice A5 bs.length c5]) [.int .i64 0, .int .i64 sent, .int .i64 tt, .slice A5 bs.length c5] K9.out rfl (by kernel_rfl) (by simp) (by
      intro q hq
      simp only [List.mem_cons, List.not_mem_nil, or_false] at hq
      rcases hq with rfl | rfl | rfl | rfl <;> rfl)
    obtain ⟨cur', h3, _, h5⟩ := setCells_row [.int .i64 0, .int .i64 sent, .int .i64 tt, .slice A5 bs.length c5] 0 w1 _ K9.out (by simp)
    have hn : cur' = #[.int .i64 0, .int .i64 sent, .int .i64 tt, .slice A5 bs.length c5] := Array.toList_inj.mp (h5.trans rfl)
    subst hn
    obtain ⟨e1, e2, e3, e4⟩ := setCells_same g9 [.int .i64 0, .int .i64 sent, .int .i64 tt, .slice A5 bs.length c5] 0 w1
    have hne : ∀ k, k ≠ g9 → (w1.setCells g9 0 [.int .i64 0, .int .i64 sent, .int .i64 tt, .slice A5 bs.length c5]).heap[k]? = w1.heap[k]? := fun k hk => setCells_far _ 0 k hk
    have hB : Below w.heap.size w (w1.setCells g9 0 [.int .i64 0, .int .i64 sent, .int .i64 tt, .slice A5 bs.length c5]) := HB2.out.trans ⟨e1, e2, e3, Nat.le_of_eq e4.symm, fun k hk => hne k (by have := HS.out; have := HS9.out; omega)⟩
    refine skip_ (w1 := w1.setCells g9 0 [.int .i64 0, .int .i64 sent, .int .i64 tt, .slice A5 bs.length c5]) (by rfl) rfl ?_ ?_
    · exact Qp.run_store hst (by rfl) (by rfl) (by rfl)
    refine hK.out _ _ ((hne _ (by have := HS.out; have := HS9.out; omega)).trans K3.out) (fun hHeld => ?_)
    clear hK K hst h5 e1 e2 e3 e4
    generalize w1.setCells g9 0 [.int .i64 0, .int .i64 sent, .int .i64 tt, .slice A5 bs.length c5] = w3 at h3 hne hB hHeld ⊢
    clear K9
    have K9 := Aside0.mk h3
    have n_ := Aside0.mk ((hne _ (by have := HS.out; have := HS9.out; omega)).trans K3.out)
    clear K3
    have K3 := n_
    clear n_
    have n_ := Aside0.mk ((hne _ (by have := HS.out; have := HS9.out; omega)).trans K6.out)
    clear K6
    have K6 := n_
    clear n_
    have n_ := Aside0.mk ((hne _ (by have := HS.out; have := HS9.out; omega)).trans K8.out)
    clear K8
    have K8 := n_
    clear n_
    have n_ := Aside0.mk (hB)
    clear HB2
    have HB2 := n_
    clear n_
    have n_ := Aside0.mk (Kd.V_step HV.out (fun k hk _ => hne k hk.2))
    clear HV
    have HV := n_
    clear n_
    clear h3 hne hB hHeld
    refine done_ (done_of HT_.out (by kernel_rfl)) ?_
    have q0 : w3.cell? ⟨g3, 0, none⟩ = some (.int .i64 now) := blk_cell K3.out 0
    have q1 : w3.cell? ⟨g3, 1, none⟩ = some (.int .i64 sent) := blk_cell K3.out 1
    have q2 : w3.cell? ⟨g3, 2, none⟩ = some (.slice Aw way.length cw) := blk_cell K3.out 2
    have q3 : w3.cell? ⟨g3, 3, none⟩ = some (.slice Af fates.length cf) := blk_cell K3.out 3
    have f1 : w3.frozen? ⟨g3, 1, none⟩ = false := blk_frozen K3.out 1
    go_wp2_with ((with_reducible refine gate_store (t := 3) (p := 40) rfl ?_); refine Aside0.out (p := _) ?_)
    refine Aside0.mk ?_
    refine store_seg [.int .i64 (wrap64 (sent + 1))] #[.int .i64 now, .int .i64 (wrap64 (sent + 1)), .slice Aw way.length cw, .slice Af fates.length cf] K3.out rfl rfl rfl rfl rfl rfl (by kernel_rfl) (by simp) (by
      intro q hq
      simp only [List.mem_cons, List.not_mem_nil, or_false] at hq
      first | (rcases hq with rfl | rfl | rfl | rfl <;> rfl) | (subst hq; rfl)) rfl ?_
    intro w4 hk hne hB
    clear q0 q1 q2 q3
    clear f1
    have hw1 : wrap64 (sent + 1) = sent + 1 := w64_in (by have := HRL.out.1; omega) (by have := HRL.out.1; omega)
    rw [hw1] at hk
    clear hw1 K3
    have K3 := Aside0.mk hk
    have n_ := Aside0.mk ((hne _ (by have := HS.out; have := HS9.out; omega)).trans K6.out)
    clear K6
    have K6 := n_
    clear n_
    have n_ := Aside0.mk ((hne _ (by have := HS.out; have := HS9.out; omega)).trans K8.out)
    clear K8
    have K8 := n_
    clear n_
    have n_ := Aside0.mk ((hne _ (by have := HS.out; have := HS9.out; omega)).trans K9.out)
    clear K9
    have K9 := n_
    clear n_
    have n_ := Aside0.mk (hB _ _ (by have := HS.out; have := HS9.out; omega) HB2.out)
    clear HB2
    have HB2 := n_
    clear n_
    have n_ := Aside0.mk (Kd.V_step HV.out (fun k hk _ => hne k (by have := hk.1; have := HS.out; omega)))
    clear HV
    have HV := n_
    clear n_
    clear hk hne hB
    have q0 : w4.cell? ⟨g3, 0, none⟩ = some (.int .i64 now) := blk_cell K3.out 0
    have q1 : w4.cell? ⟨g3, 1, none⟩ = some (.int .i64 (sent + 1)) := blk_cell K3.out 1
    have q2 : w4.cell? ⟨g3, 2, none⟩ = some (.slice Aw way.length cw) := blk_cell K3.out 2
    have q3 : w4.cell? ⟨g3, 3, none⟩ = some (.slice Af fates.length cf) := blk_cell K3.out 3
    go_wp2_with ((with_reducible refine gate_dst (N := 43) rfl ?_); refine Aside0.out (p := _) ?_)
    refine Aside0.mk ?_
    refine goesL_ (some 43) rfl rfl Try.func18 (by kernel_rfl) rfl #[.slice Aw way.length cw] rfl (by (try simp only [List.map_toArray, List.map_cons, List.map_nil, List.append_toArray, List.cons_append, List.nil_append]); first | done | rfl) ?_
    clear q0 q1 q2 q3
    refine (sorted.calls Aw cw way _ _ (Kd.C_below HR.out.1 HB2.out) hlw (if_pos HBS.out.1)).mono ?_
    rintro e w5 ⟨v, rfl, hv, hb⟩
    refine ⟨_, rfl, ?_⟩
    obtain ⟨B, d, rfl⟩ := Kd.V_slice hv
    obtain ⟨T, hT⟩ : ∃ T, T = Hp.srt ltL way := ⟨_, rfl⟩
    rw [← hT] at hv ⊢
    have HTT := Aside0.mk hT
    clear hT
    have HVT := Aside0.mk (Kd.V_bound hv)
    have HS4 := Aside0.mk (show g9 < w4.heap.size from blk_lt K9.out)
    have n_ := Aside0.mk ((hb.block _ (blk_lt K3.out)).trans K3.out)
    clear K3
    have K3 := n_
    clear n_
    have n_ := Aside0.mk ((hb.block _ (blk_lt K6.out)).trans K6.out)
    clear K6
    have K6 := n_
    clear n_
    have n_ := Aside0.mk ((hb.block _ (blk_lt K8.out)).trans K8.out)
    clear K8
    have K8 := n_
    clear n_
    have n_ := Aside0.mk ((hb.block _ (blk_lt K9.out)).trans K9.out)
    clear K9
    have K9 := n_
    clear n_
    have n_ := Aside0.mk (HB2.out.trans (hb.mono HB2.out.size))
    clear HB2
    have HB2 := n_
    clear n_
    have n_ := Aside0.mk (Kd.V_below HV.out hb)
    clear HV
    have HV := n_
    clear n_
    clear hv hb
    have q0 : w5.cell? ⟨g3, 0, none⟩ = some (.int .i64 now) := blk_cell K3.out 0
    have q1 : w5.cell? ⟨g3, 1, none⟩ = some (.int .i64 (sent + 1)) := blk_cell K3.out 1
    have q2 : w5.cell? ⟨g3, 2, none⟩ = some (.slice Aw way.length cw) := blk_cell K3.out 2
    have q3 : w5.cell? ⟨g3, 3, none⟩ = some (.slice Af fates.length cf) := blk_cell K3.out 3
    go_wp2_with ((with_reducible refine gate_store (t := 22) (p := 44) rfl ?_); refine Aside0.out (p := _) ?_)
    refine Aside0.mk ?_
    refine store_seg [.slice B T.length d] #[.int .i64 now, .int .i64 (sent + 1), .slice B T.length d, .slice Af fates.length cf] K3.out rfl rfl rfl rfl rfl rfl (by kernel_rfl) (by simp) (by
      intro q hq
      simp only [List.mem_cons, List.not_mem_nil, or_false] at hq
      first | (rcases hq with rfl | rfl | rfl | rfl <;> rfl) | (subst hq; rfl)) rfl ?_
    intro w6 hk hne hB
    clear q0 q1 q2 q3
    have HSA := Aside0.mk (show SAt w w6 now sent tt Af cf fates f bs A5 c5 g3 g6 g8 g9 B d T 0 from ⟨hB _ _ (by have := HS.out; have := HS9.out; omega) HB2.out, hk, (hne _ (by have := HS.out; have := HS9.out; omega)).trans K6.out, (hne _ (by have := HS.out; have := HS9.out; omega)).trans K8.out, (hne _ (by have := HS.out; have := HS9.out; omega)).trans K9.out, Kd.V_step (Kd.V_mono (Kd.V_lower HV.out HS.out.2.2.2.2) (fun k hk => by have := hk.1; have := hk.2; have := HS.out; have := HS9.out; omega)) (fun k hk _ => hne k hk.2.1), Kd.V_step (Kd.V_mono (Kd.V_lower HVT.out (by have := HS.out; have := HS9.out; have := HS4.out; omega)) (fun k hk => by have := hk.1; have := HS.out; have := HS9.out; have := HS4.out; omega)) (fun k hk _ => hne k hk.2.1), by have := HS.out; have := HS9.out; omega⟩)
    clear hk hne hB HB2 K3 K6 K8 K9 HV HVT HS4 HS9 HS HB HO8
    have HTL := Aside0.mk (show T.length = way.length from by rw [HTT.out, (Hp.srt_perm _).length_eq])
    have HTG := Aside0.mk (show ∀ u ∈ T, good u from fun u hu => by rw [HTT.out] at hu; exact (bndB_iff.mp HBS.out.1).2 u ((Hp.srt_perm _).mem_iff.mp hu))
    have q0 : w6.cell? ⟨g8, 0, none⟩ = some (.bool f.f0) := blk_cell HSA.out.k8 0
    have q1 : w6.cell? ⟨g8, 1, none⟩ = some (.bool f.f1) := blk_cell HSA.out.k8 1
    have q2 : w6.cell? ⟨g8, 2, none⟩ = some (.int .i64 f.f2) := blk_cell HSA.out.k8 2
    have q3 : w6.cell? ⟨g8, 3, none⟩ = some (.int .i64 f.f3) := blk_cell HSA.out.k8 3
    go_upto_if 47 with fail
    clear q0 q1 q2 q3
    obtain ⟨T2, hT2⟩ : ∃ t, t = (if f.f0 = false then Hp.srt ltL ((⟨now + 1 + f.f2, sent, tt, bs⟩ : S25) :: T) else T) := ⟨_, rfl⟩
    have HT2 := Aside0.mk hT2
    clear hT2
    go_cut [] (fun wc => ∃ B d at_, Aside0 (SAt w wc now sent tt Af cf fates f bs A5 c5 g3 g6 g8 g9 B d T2 at_))
    case first =>
      cases h0 : f.f0 with
      | true =>
        have h2 := HT2.out
        rw [h0, if_neg (by decide)] at h2
        subst h2
        go_wp2
        go_meet
        case rel => exact ⟨_, _, _, HSA⟩
      | false =>
        have h2 := HT2.out
        rw [h0, if_pos rfl] at h2
        have HT2 := Aside0.mk h2
        clear h2
        have hw := (show wrap64 (wrap64 (now + 1) + f.f2) = now + 1 + f.f2 from by
          have h1 := HRL.out.1
          have h2 := HFL.out
          rw [w64_in (n := now + 1) (by omega) (by omega), w64_in (by omega) (by omega)])
        have HW := Aside0.mk hw
        clear hw
        have q0 : w6.cell? ⟨g3, 0, none⟩ = some (.int .i64 now) := blk_cell HSA.out.k3 0
        have q1 : w6.cell? ⟨g3, 1, none⟩ = some (.int .i64 (sent + 1)) := blk_cell HSA.out.k3 1
        have q2 : w6.cell? ⟨g3, 2, none⟩ = some (.slice B T.length d) := blk_cell HSA.out.k3 2
        have q3 : w6.cell? ⟨g3, 3, none⟩ = some (.slice Af fates.length cf) := blk_cell HSA.out.k3 3
        have p0 : w6.cell? ⟨g8, 0, none⟩ = some (.bool f.f0) := blk_cell HSA.out.k8 0
        have p1 : w6.cell? ⟨g8, 1, none⟩ = some (.bool f.f1) := blk_cell HSA.out.k8 1
        have p2 : w6.cell? ⟨g8, 2, none⟩ = some (.int .i64 f.f2) := blk_cell HSA.out.k8 2
        have p3 : w6.cell? ⟨g8, 3, none⟩ = some (.int .i64 f.f3) := blk_cell HSA.out.k8 3
        have hf0 : w6.frozen? ⟨g9, 0, none⟩ = false := blk_frozen HSA.out.k9 0
        go_wp2_with ((with_reducible refine gate_store (t := 3) (p := 54) rfl ?_); refine Aside0.out (p := _) ?_)
        refine Aside0.mk ?_
        refine store_seg [.int .i64 (wrap64 (wrap64 (now + 1) + f.f2))] #[.int .i64 (wrap64 (wrap64 (now + 1) + f.f2)), .int .i64 sent, .int .i64 tt, .slice A5 bs.length c5] HSA.out.k9 rfl rfl rfl rfl rfl rfl (by kernel_rfl) (by simp) (by
          intro q hq
          simp only [List.mem_cons, List.not_mem_nil, or_false] at hq
          first | (rcases hq with rfl | rfl | rfl | rfl <;> rfl) | (subst hq; rfl)) rfl ?_
        intro y1 hk hne hB
        clear q0 q1 q2 q3
        clear p0 p1 p2 p3
        clear hf0
        rw [HW.out] at hk
        have n_ := Aside0.mk (HSA.out.put9 hk hne hB)
        clear HSA
        have HSA := n_
        clear n_ hk hne hB HW
        have q0 : y1.cell? ⟨g3, 0, none⟩ = some (.int .i64 now) := blk_cell HSA.out.k3 0
        have q1 : y1.cell? ⟨g3, 1, none⟩ = some (.int .i64 (sent + 1)) := blk_cell HSA.out.k3 1
        have q2 : y1.cell? ⟨g3, 2, none⟩ = some (.slice B T.length d) := blk_cell HSA.out.k3 2
        have q3 : y1.cell? ⟨g3, 3, none⟩ = some (.slice Af fates.length cf) := blk_cell HSA.out.k3 3
        have p0 : y1.cell? ⟨g9, 0, none⟩ = some (.int .i64 (now + 1 + f.f2)) := blk_cell HSA.out.k9 0
        have p1 : y1.cell? ⟨g9, 1, none⟩ = some (.int .i64 sent) := blk_cell HSA.out.k9 1
        have p2 : y1.cell? ⟨g9, 2, none⟩ = some (.int .i64 tt) := blk_cell HSA.out.k9 2
        have p3 : y1.cell? ⟨g9, 3, none⟩ = some (.slice A5 bs.length c5) := blk_cell HSA.out.k9 3
        go_wp2_with ((with_reducible refine gate_dst (N := 57) rfl ?_); refine Aside0.out (p := _) ?_)
        refine Aside0.mk ?_
        refine goesL_ (some 57) rfl rfl Try.func41 (by kernel_rfl) rfl #[.agg #[.int .i64 now, .int .i64 (sent + 1), .slice B T.length d, .slice Af fates.length cf], .agg #[.int .i64 (now + 1 + f.f2), .int .i64 sent, .int .i64 tt, .slice A5 bs.length c5]] rfl (by (try simp only [List.map_toArray, List.map_cons, List.map_nil, List.append_toArray, List.cons_append, List.nil_append]); first | done | rfl) ?_
        clear q0 q1 q2 q3
        clear p0 p1 p2 p3
        have hvT := Kd.V_reads' HSA.out.vT
        have hvb := Kd.V_reads' HSA.out.vb
        have hgx : good (⟨now + 1 + f.f2, sent, tt, bs⟩ : S25) := ⟨HBS.out.2.1, HBS.out.2.2⟩
        refine (wayC (x := (⟨now + 1 + f.f2, sent, tt, bs⟩ : S25)) (now := now) (sent := sent + 1) hvT.2.2 hvT.2.1 (Kd.C_below HR.out.2.1 HSA.out.ba) hlf hvb.2.2 hvb.2.1 (by have := HTL.out; have := hl.1; omega) (bndB_iff.mpr ⟨by rw [List.length_cons]; have := HTL.out; have := hl.1; omega, fun u hu => by
          rcases List.mem_cons.mp hu with h | h
          · rw [h]; exact hgx
          · exact HTG.out u h⟩)).mono ?_
        rw [← HT2.out]
        rintro e y2 ⟨B2, d2, rfl, hv, hb⟩
        refine ⟨_, rfl, ?_⟩
        have HV2 := Aside0.mk (HSA.out.fresh hv)
        have n_ := Aside0.mk (HSA.out.step hb)
        clear HSA
        have HSA := n_
        clear n_ hv hb hvT hvb hgx
        go_wp2_with ((with_reducible refine gate_store (t := 44) (p := 3) rfl ?_); refine Aside0.out (p := _) ?_)
        refine Aside0.mk ?_
        refine store_seg [.int .i64 now, .int .i64 (sent + 1), .slice B2 T2.length d2, .slice Af fates.length cf] #[.int .i64 now, .int .i64 (sent + 1), .slice B2 T2.length d2, .slice Af fates.length cf] HSA.out.k3 rfl rfl rfl rfl rfl rfl (by kernel_rfl) (by simp) (by
          intro q hq
          simp only [List.mem_cons, List.not_mem_nil, or_false] at hq
          first | (rcases hq with rfl | rfl | rfl | rfl <;> rfl) | (subst hq; rfl)) rfl ?_
        intro y3 hk hne hB
        have HSB := Aside0.mk (HSA.out.put3 HV2.out hk hne hB)
        clear hk hne hB HSA HV2
        go_wp2
        go_meet
        case rel => exact ⟨_, _, _, HSB⟩
    case rest =>
      clear HSA
      obtain ⟨B, d, at_, HSA⟩ := hcut
      have HTL2 := Aside0.mk (show T2.length ≤ T.length + 1 from by
        rw [HT2.out]
        split
        · rw [(Hp.srt_perm _).length_eq, List.length_cons]; exact Nat.le_refl _
        · exact Nat.le_succ _)
      have HTG2 := Aside0.mk (show ∀ u ∈ T2, good u from fun u hu => by
        rw [HT2.out] at hu
        split at hu
        · rcases List.mem_cons.mp ((Hp.srt_perm _).mem_iff.mp hu) with h | h
          · rw [h]; exact ⟨HBS.out.2.1, HBS.out.2.2⟩
          · exact HTG.out u h
        · exact HTG.out u hu)
      have n_ := Aside0.mk (show T2.length ≤ way.length + 1 from by have h1 := HTL.out; have h2 := HTL2.out; rw [h1] at h2; exact h2)
      clear HTL HTG HTL2
      have HTL := n_
      have HTG := HTG2
      clear n_ HTG2
      have q0 : wc.cell? ⟨g8, 0, none⟩ = some (.bool f.f0) := blk_cell HSA.out.k8 0
      have q1 : wc.cell? ⟨g8, 1, none⟩ = some (.bool f.f1) := blk_cell HSA.out.k8 1
      have q2 : wc.cell? ⟨g8, 2, none⟩ = some (.int .i64 f.f2) := blk_cell HSA.out.k8 2
      have q3 : wc.cell? ⟨g8, 3, none⟩ = some (.int .i64 f.f3) := blk_cell HSA.out.k8 3
      go_upto_if 59 with fail
      clear q0 q1 q2 q3
      obtain ⟨T3, hT3⟩ : ∃ t, t = (if f.f1 = true then Hp.srt ltL ((⟨now + 1 + f.f3, sent, tt, bs⟩ : S25) :: T2) else T2) := ⟨_, rfl⟩
      have HT3 := Aside0.mk hT3
      clear hT3
      go_cut [] (fun wc => ∃ B d at_, Aside0 (SAt w wc now sent tt Af cf fates f bs A5 c5 g3 g6 g8 g9 B d T3 at_))
      case first =>
        cases h0 : f.f1 with
        | false =>
          have h2 := HT3.out
          rw [h0, if_neg (by decide)] at h2
          subst h2
          go_wp2
          go_meet
          case rel => exact ⟨_, _, _, HSA⟩
        | true =>
          have h2 := HT3.out
          rw [h0, if_pos rfl] at h2
          have HT9 := Aside0.mk h2
          clear h2
          have hw := (show wrap64 (wrap64 (now + 1) + f.f3) = now + 1 + f.f3 from by
            have h1 := HRL.out.1
            have h2 := HFL.out
            rw [w64_in (n := now + 1) (by omega) (by omega), w64_in (by omega) (by omega)])
          have HW := Aside0.mk hw
          clear hw
          have q0 : wc.cell? ⟨g3, 0, none⟩ = some (.int .i64 now) := blk_cell HSA.out.k3 0
          have q1 : wc.cell? ⟨g3, 1, none⟩ = some (.int .i64 (sent + 1)) := blk_cell HSA.out.k3 1
          have q2 : wc.cell? ⟨g3, 2, none⟩ = some (.slice B T2.length d) := blk_cell HSA.out.k3 2
          have q3 : wc.cell? ⟨g3, 3, none⟩ = some (.slice Af fates.length cf) := blk_cell HSA.out.k3 3
          have p0 : wc.cell? ⟨g8, 0, none⟩ = some (.bool f.f0) := blk_cell HSA.out.k8 0
          have p1 : wc.cell? ⟨g8, 1, none⟩ = some (.bool f.f1) := blk_cell HSA.out.k8 1
          have p2 : wc.cell? ⟨g8, 2, none⟩ = some (.int .i64 f.f2) := blk_cell HSA.out.k8 2
          have p3 : wc.cell? ⟨g8, 3, none⟩ = some (.int .i64 f.f3) := blk_cell HSA.out.k8 3
          have hf0 : wc.frozen? ⟨g9, 0, none⟩ = false := blk_frozen HSA.out.k9 0
          go_wp2_with ((with_reducible refine gate_store (t := 3) (p := 66) rfl ?_); refine Aside0.out (p := _) ?_)
          refine Aside0.mk ?_
          refine store_seg [.int .i64 (wrap64 (wrap64 (now + 1) + f.f3))] #[.int .i64 (wrap64 (wrap64 (now + 1) + f.f3)), .int .i64 sent, .int .i64 tt, .slice A5 bs.length c5] HSA.out.k9 rfl rfl rfl rfl rfl rfl (by kernel_rfl) (by simp) (by
            intro q hq
            simp only [List.mem_cons, List.not_mem_nil, or_false] at hq
            first | (rcases hq with rfl | rfl | rfl | rfl <;> rfl) | (subst hq; rfl)) rfl ?_
          intro y1 hk hne hB
          clear q0 q1 q2 q3
          clear p0 p1 p2 p3
          clear hf0
          rw [HW.out] at hk
          have n_ := Aside0.mk (HSA.out.put9 hk hne hB)
          clear HSA
          have HSA := n_
          clear n_ hk hne hB HW
          have q0 : y1.cell? ⟨g3, 0, none⟩ = some (.int .i64 now) := blk_cell HSA.out.k3 0
          have q1 : y1.cell? ⟨g3, 1, none⟩ = some (.int .i64 (sent + 1)) := blk_cell HSA.out.k3 1
          have q2 : y1.cell? ⟨g3, 2, none⟩ = some (.slice B T2.length d) := blk_cell HSA.out.k3 2
          have q3 : y1.cell? ⟨g3, 3, none⟩ = some (.slice Af fates.length cf) := blk_cell HSA.out.k3 3
          have p0 : y1.cell? ⟨g9, 0, none⟩ = some (.int .i64 (now + 1 + f.f3)) := blk_cell HSA.out.k9 0
          have p1 : y1.cell? ⟨g9, 1, none⟩ = some (.int .i64 sent) := blk_cell HSA.out.k9 1
          have p2 : y1.cell? ⟨g9, 2, none⟩ = some (.int .i64 tt) := blk_cell HSA.out.k9 2
          have p3 : y1.cell? ⟨g9, 3, none⟩ = some (.slice A5 bs.length c5) := blk_cell HSA.out.k9 3
          go_wp2_with ((with_reducible refine gate_dst (N := 69) rfl ?_); refine Aside0.out (p := _) ?_)
          refine Aside0.mk ?_
          refine goesL_ (some 69) rfl rfl Try.func41 (by kernel_rfl) rfl #[.agg #[.int .i64 now, .int .i64 (sent + 1), .slice B T2.length d, .slice Af fates.length cf], .agg #[.int .i64 (now + 1 + f.f3), .int .i64 sent, .int .i64 tt, .slice A5 bs.length c5]] rfl (by (try simp only [List.map_toArray, List.map_cons, List.map_nil, List.append_toArray, List.cons_append, List.nil_append]); first | done | rfl) ?_
          clear q0 q1 q2 q3
          clear p0 p1 p2 p3
          have hvT := Kd.V_reads' HSA.out.vT
          have hvb := Kd.V_reads' HSA.out.vb
          have hgx : good (⟨now + 1 + f.f3, sent, tt, bs⟩ : S25) := ⟨HBS.out.2.1, HBS.out.2.2⟩
          refine (wayC (x := (⟨now + 1 + f.f3, sent, tt, bs⟩ : S25)) (now := now) (sent := sent + 1) hvT.2.2 hvT.2.1 (Kd.C_below HR.out.2.1 HSA.out.ba) hlf hvb.2.2 hvb.2.1 (by have := HTL.out; have := hl.1; omega) (bndB_iff.mpr ⟨by rw [List.length_cons]; have := HTL.out; have := hl.1; omega, fun u hu => by
            rcases List.mem_cons.mp hu with h | h
            · rw [h]; exact hgx
            · exact HTG.out u h⟩)).mono ?_
          rw [← HT9.out]
          rintro e y2 ⟨B2, d2, rfl, hv, hb⟩
          refine ⟨_, rfl, ?_⟩
          have HV2 := Aside0.mk (HSA.out.fresh hv)
          have n_ := Aside0.mk (HSA.out.step hb)
          clear HSA
          have HSA := n_
          clear n_ hv hb hvT hvb hgx
          go_wp2_with ((with_reducible refine gate_store (t := 44) (p := 3) rfl ?_); refine Aside0.out (p := _) ?_)
          refine Aside0.mk ?_
          refine store_seg [.int .i64 now, .int .i64 (sent + 1), .slice B2 T3.length d2, .slice Af fates.length cf] #[.int .i64 now, .int .i64 (sent + 1), .slice B2 T3.length d2, .slice Af fates.length cf] HSA.out.k3 rfl rfl rfl rfl rfl rfl (by kernel_rfl) (by simp) (by
            intro q hq
            simp only [List.mem_cons, List.not_mem_nil, or_false] at hq
            first | (rcases hq with rfl | rfl | rfl | rfl <;> rfl) | (subst hq; rfl)) rfl ?_
          intro y3 hk hne hB
          have HSB := Aside0.mk (HSA.out.put3 HV2.out hk hne hB)
          clear hk hne hB HSA HV2
          go_wp2
          go_meet
          case rel => exact ⟨_, _, _, HSB⟩
      case rest =>
        clear HSA
        obtain ⟨B, d, at_, HSA⟩ := hcut
        have hT3 : T3 = sendW now sent tt bs way f := by
          rw [HT3.out, HT2.out, HTT.out]
          unfold sendW
          cases f.f0 <;> cases f.f1 <;> rfl
        have HTZ := Aside0.mk hT3
        clear hT3
        have q0 : wc.cell? ⟨g3, 0, none⟩ = some (.int .i64 now) := blk_cell HSA.out.k3 0
        have q1 : wc.cell? ⟨g3, 1, none⟩ = some (.int .i64 (sent + 1)) := blk_cell HSA.out.k3 1
        have q2 : wc.cell? ⟨g3, 2, none⟩ = some (.slice B T3.length d) := blk_cell HSA.out.k3 2
        have q3 : wc.cell? ⟨g3, 3, none⟩ = some (.slice Af fates.length cf) := blk_cell HSA.out.k3 3
        go_wp2_with ((with_reducible refine gate_store (t := 44) (p := 6) rfl ?_); refine Aside0.out (p := _) ?_)
        refine Aside0.mk ?_
        refine store_seg [.int .i64 now, .int .i64 (sent + 1), .slice B T3.length d, .slice Af fates.length cf] #[.int .i64 now, .int .i64 (sent + 1), .slice B T3.length d, .slice Af fates.length cf] HSA.out.k6 rfl rfl rfl rfl rfl rfl (by kernel_rfl) (by simp) (by
          intro q hq
          simp only [List.mem_cons, List.not_mem_nil, or_false] at hq
          first | (rcases hq with rfl | rfl | rfl | rfl <;> rfl) | (subst hq; rfl)) rfl ?_
        intro z1 hk hne hB
        clear q0 q1 q2 q3
        have q0 : z1.cell? ⟨g6, 0, none⟩ = some (.int .i64 now) := blk_cell hk 0
        have q1 : z1.cell? ⟨g6, 1, none⟩ = some (.int .i64 (sent + 1)) := blk_cell hk 1
        have q2 : z1.cell? ⟨g6, 2, none⟩ = some (.slice B T3.length d) := blk_cell hk 2
        have q3 : z1.cell? ⟨g6, 3, none⟩ = some (.slice Af fates.length cf) := blk_cell hk 3
        have HBz := Aside0.mk (hB _ _ (by have := HSA.out.od; omega) HSA.out.ba)
        have HVz := Aside0.mk (Kd.V_step HSA.out.vT (fun k hk _ => hne k hk.2.2.1))
        clear hne hB HSA
        go_wp2
        have HFE := HFA.out
        subst HFE
        have hT3 := HTZ.out
        subst hT3
        exact bodyPost_ret (v := .tuple #[.agg #[.int .i64 now, .int .i64 (sent + 1), .slice B (sendW now sent tt bs way (fateAt fates sent)).length d, .slice Af fates.length cf], .int .i64 0]) (by simp [results, Try.results23, go_sem, q0, q1, q2, q3]) rfl ⟨B, d, rfl, Kd.V_mono HVz.out (fun k hk => hk.1), HBz.out⟩
end Go.Proofs.Ytghkngdcmlhmeaa.Nw

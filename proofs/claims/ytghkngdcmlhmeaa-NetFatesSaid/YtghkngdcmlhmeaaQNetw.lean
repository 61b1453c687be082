/- The net's functions. -/
import Derived.Test.YtghkngdcmlhmeaaQWrap
import Derived.Test.YtghkngdcmlhmeaaQNet
import Derived.Test.YtghkngdcmlhmeaaPQux14
import Derived.Test.YtghkngdcmlhmeaaPQux16
import Derived.Test.YtghkngdcmlhmeaaPQux15
set_option linter.unusedVariables false
set_option linter.unusedSimpArgs false
set_option linter.unusedSectionVars false
namespace Go.Proofs.Ytghkngdcmlhmeaa.Nw
open Go.RowKit Go.Proofs Go.Proofs.Ytghkngdcmlhmeaa.PQu Go.Proofs.YtghkngdcmlhmeaaW.PrintWords Go.Proofs.YtghkngdcmlhmeaaW.PrintLast Go.Proofs.YtghkngdcmlhmeaaW.PrintMore Go.Proofs.Ytghkngdcmlhmeaa.Qp Go.Proofs.Ytghkngdcmlhmeaa.Qs Go.Proofs.Ytghkngdcmlhmeaa.Qn Go.Proofs.Ytghkngdcmlhmeaa.Qw
theorem store_seg {P : Program} {ops : Array Oper} {Q : Exit → Act → World → Prop} {rest : List Oper} {a : Act} {o : Oper} {W : World} {g j : Nat} {t : TypeId} {p : Tmp} {x : Operand} {cur : Array Value} {e : TypeId} {u : Value} (seg : List Value) (new : Array Value)
    (hh : W.heap[g]? = some (.cells cur e (0, 0))) (hgd : o.guard = none) (ho : o.op = .store t (.tmp p) x) (hN : o.dst = none) (hp : a.eval (.tmp p) = .pointer (some ⟨g, j, none⟩)) (hx : a.eval x = u) (hu : u.cells.toList = seg) (ht : (P.info? t).map (·.size) = some seg.length) (hfit : j + seg.length ≤ cur.size) (h1 : ∀ q ∈ seg, q.oneCell' = true) (hnew : new.toList = cur.toList.take j ++ seg ++ cur.toList.drop (j + seg.length))
    (h : ∀ W', W'.heap[g]? = some (.cells new e (0, 0)) → (∀ k, k ≠ g → W'.heap[k]? = W.heap[k]?) → (∀ w0 B, B ≤ g → Below B w0 W → Below B w0 W') → wpList P ops Q rest a W') : wpList P ops Q (o :: rest) a W := by
  have hst := run_store_run (P := P) (w := W) (o := j) t u seg hh hu ht hfit h1
  refine store_event hgd ho hN (w1 := W.setCells g j seg) (Qp.run_store hst ho hp hx) ?_
  intro W' hw
  obtain ⟨cur', h3, _, h5⟩ := setCells_row seg j W cur hh hfit
  have hn : cur' = new := Array.toList_inj.mp (h5.trans hnew.symm)
  obtain ⟨e1, e2, e3, e4⟩ := setCells_same g seg j W
  subst hw
  refine h _ (hn ▸ h3) (fun k hk => setCells_far seg j k hk) (fun w0 B hB hb => hb.trans ⟨e1, e2, e3, Nat.le_of_eq e4.symm, fun k hk => setCells_far seg j k (by omega)⟩)
theorem rightC {w : World} {now sent : Int} {Aw Af : Option Addr} {cw cf : Nat} {way : List S25} {fates : List S51} (hrw : Kd.C k25 w Aw way.length way) (hlw : way.length ≤ cw) (hrf : Kd.C k51 w Af fates.length fates) (hlf : fates.length ≤ cf) (hl : way.length < 1099511627776 ∧ fates.length < 1099511627776) : Calls Try.prog 25 #[.agg #[.int .i64 now, .int .i64 sent, .slice Aw way.length cw, .slice Af fates.length cf]] w fun e w' => e = .returned (.bool (rightB now sent way fates)) ∧ Below w.heap.size w w' :=
  net_Right.calls now sent Aw cw way Af cf fates _ w hrw hlw hrf hlf (if_pos hl)
def goesB (now sent : Int) (way : List S25) (fates : List S51) : Bool := rightB now sent way fates && (decide (now < 1099511627776) && decide (sent < 1099511627776))
theorem goesB_iff {now sent : Int} {way : List S25} {fates : List S51} : goesB now sent way fates = true ↔ rightB now sent way fates = true ∧ now < 1099511627776 ∧ sent < 1099511627776 := by
  simp [goesB]
set_option maxHeartbeats 2000000 in
set_option maxRecDepth 100000 in
theorem goesC {w : World} {now sent : Int} {Aw Af : Option Addr} {cw cf : Nat} {way : List S25} {fates : List S51} (hrw : Kd.C k25 w Aw way.length way) (hlw : way.length ≤ cw) (hrf : Kd.C k51 w Af fates.length fates) (hlf : fates.length ≤ cf) (hl : way.length < 1099511627776 ∧ fates.length < 1099511627776) (hg : goesB now sent way fates = true) : Calls Try.prog 38 #[.agg #[.int .i64 now, .int .i64 sent, .slice Aw way.length cw, .slice Af fates.length cf]] w fun e w' => e = .returned (.bool true) ∧ Below w.heap.size w w' := by
  have hu44 := Try.underlying44
  obtain ⟨g1, g2, g3⟩ := goesB_iff.mp hg
  have HR := Aside0.mk (And.intro hrw (And.intro hrf (And.intro hl g1)))
  have b1 : decide (now < 1099511627776) = true := decide_eq_true g2
  have b2 : decide (sent < 1099511627776) = true := decide_eq_true g3
  clear hrw hrf hg hl g1
  go_enter Try.func38, Try.ntmps38
  go_wp2_with ((with_reducible refine gate_dst (N := 1) rfl ?_); refine Aside0.out (p := _) ?_)
  refine Aside0.mk ?_
  refine box_event (by rfl) (N := 1) rfl (cs := #[.int .i64 now, .int .i64 sent, .slice Aw way.length cw, .slice Af fates.length cf]) (t := 44) ?hr ?_
  case hr => first | (go_simp; done) | (go_simp; rfl)
  intro g1 hg1 v1 kg1 bg1
  have G1 := Aside0.mk (And.intro hg1 (And.intro kg1 bg1))
  clear hg1 kg1 bg1
  have q0 : v1.cell? ⟨g1, 0, none⟩ = some (.int .i64 now) := blk_cell G1.out.2.1 0
  have q1 : v1.cell? ⟨g1, 1, none⟩ = some (.int .i64 sent) := blk_cell G1.out.2.1 1
  have q2 : v1.cell? ⟨g1, 2, none⟩ = some (.slice Aw way.length cw) := blk_cell G1.out.2.1 2
  have q3 : v1.cell? ⟨g1, 3, none⟩ = some (.slice Af fates.length cf) := blk_cell G1.out.2.1 3
  go_wp2_with ((with_reducible refine gate_dst (N := 4) rfl ?_); refine Aside0.out (p := _) ?_)
  refine Aside0.mk ?_
  refine goesL_ (some 4) rfl rfl Try.func25 (by kernel_rfl) rfl #[.agg #[.int .i64 now, .int .i64 sent, .slice Aw way.length cw, .slice Af fates.length cf]] rfl (by (try simp only [List.map_toArray, List.map_cons, List.map_nil, List.append_toArray, List.cons_append, List.nil_append]); first | done | rfl) ?_
  clear q0 q1 q2 q3
  refine (rightC (Kd.C_below HR.out.1 G1.out.2.2) hlw (Kd.C_below HR.out.2.1 G1.out.2.2) hlf HR.out.2.2.1).mono ?_
  rintro e v2 ⟨rfl, hb⟩
  rw [HR.out.2.2.2]
  refine ⟨_, rfl, ?_⟩
  have K1 := Aside0.mk ((hb.block _ (blk_lt G1.out.2.1)).trans G1.out.2.1)
  have HB := Aside0.mk (G1.out.2.2.trans (hb.mono G1.out.2.2.size))
  clear hb G1 HR
  have q0 : v2.cell? ⟨g1, 0, none⟩ = some (.int .i64 now) := blk_cell K1.out 0
  have q1 : v2.cell? ⟨g1, 1, none⟩ = some (.int .i64 sent) := blk_cell K1.out 1
  have q2 : v2.cell? ⟨g1, 2, none⟩ = some (.slice Aw way.length cw) := blk_cell K1.out 2
  have q3 : v2.cell? ⟨g1, 3, none⟩ = some (.slice Af fates.length cf) := blk_cell K1.out 3
  go_wp2
  go_ret
  exact ⟨rfl, HB.out⟩
set_option maxHeartbeats 2000000 in
set_option maxRecDepth 100000 in
theorem idleC {w : World} {now sent : Int} {Aw Af : Option Addr} {cw cf : Nat} {way : List S25} {fates : List S51} (hrw : Kd.C k25 w Aw way.length way) (hlw : way.length ≤ cw) (hrf : Kd.C k51 w Af fates.length fates) (hlf : fates.length ≤ cf) (hl : way.length < 1099511627776 ∧ fates.length < 1099511627776) (hg : rightB now sent way fates = true) : Calls Try.prog 28 #[.agg #[.int .i64 now, .int .i64 sent, .slice Aw way.length cw, .slice Af fates.length cf]] w fun e w' => e = .returned (.bool (decide (way.length = 0))) ∧ Below w.heap.size w w' := by
  have hu44 := Try.underlying44
  have HR := Aside0.mk (And.intro hrw (And.intro hrf (And.intro hl hg)))
  clear hrw hrf hg hl
  go_enter Try.func28, Try.ntmps28
  go_wp2_with ((with_reducible refine gate_dst (N := 1) rfl ?_); refine Aside0.out (p := _) ?_)
  refine Aside0.mk ?_
  refine box_event (by rfl) (N := 1) rfl (cs := #[.int .i64 now, .int .i64 sent, .slice Aw way.length cw, .slice Af fates.length cf]) (t := 44) ?hr ?_
  case hr => first | (go_simp; done) | (go_simp; rfl)
  intro g1 hg1 v1 kg1 bg1
  have G1 := Aside0.mk (And.intro hg1 (And.intro kg1 bg1))
  clear hg1 kg1 bg1
  have q0 : v1.cell? ⟨g1, 0, none⟩ = some (.int .i64 now) := blk_cell G1.out.2.1 0
  have q1 : v1.cell? ⟨g1, 1, none⟩ = some (.int .i64 sent) := blk_cell G1.out.2.1 1
  have q2 : v1.cell? ⟨g1, 2, none⟩ = some (.slice Aw way.length cw) := blk_cell G1.out.2.1 2
  have q3 : v1.cell? ⟨g1, 3, none⟩ = some (.slice Af fates.length cf) := blk_cell G1.out.2.1 3
  go_wp2_with ((with_reducible refine gate_dst (N := 4) rfl ?_); refine Aside0.out (p := _) ?_)
  refine Aside0.mk ?_
  refine goesL_ (some 4) rfl rfl Try.func25 (by kernel_rfl) rfl #[.agg #[.int .i64 now, .int .i64 sent, .slice Aw way.length cw, .slice Af fates.length cf]] rfl (by (try simp only [List.map_toArray, List.map_cons, List.map_nil, List.append_toArray, List.cons_append, List.nil_append]); first | done | rfl) ?_
  clear q0 q1 q2 q3
  refine (rightC (Kd.C_below HR.out.1 G1.out.2.2) hlw (Kd.C_below HR.out.2.1 G1.out.2.2) hlf HR.out.2.2.1).mono ?_
  rintro e v2 ⟨rfl, hb⟩
  rw [HR.out.2.2.2]
  refine ⟨_, rfl, ?_⟩
  have K1 := Aside0.mk ((hb.block _ (blk_lt G1.out.2.1)).trans G1.out.2.1)
  have HB := Aside0.mk (G1.out.2.2.trans (hb.mono G1.out.2.2.size))
  clear hb G1 HR
  have q0 : v2.cell? ⟨g1, 0, none⟩ = some (.int .i64 now) := blk_cell K1.out 0
  have q1 : v2.cell? ⟨g1, 1, none⟩ = some (.int .i64 sent) := blk_cell K1.out 1
  have q2 : v2.cell? ⟨g1, 2, none⟩ = some (.slice Aw way.length cw) := blk_cell K1.out 2
  have q3 : v2.cell? ⟨g1, 3, none⟩ = some (.slice Af fates.length cf) := blk_cell K1.out 3
  by_cases h0 : way.length = 0
  · have b1 : ((way.length : Int) == 0) = true := beq_iff_eq.mpr (by omega)
    have b2 : (way.length == 0) = true := beq_iff_eq.mpr h0
    have b3 : decide (way.length = 0) = true := decide_eq_true h0
    go_wp2
    go_ret
    exact ⟨by simp [h0], HB.out⟩
  · have b1 : ((way.length : Int) == 0) = false := beq_eq_false_iff_ne.mpr (by omega)
    have b2 : (way.length == 0) = false := beq_eq_false_iff_ne.mpr h0
    have b3 : decide (way.length = 0) = false := decide_eq_false h0
    go_wp2
    go_ret
    exact ⟨by simp [h0], HB.out⟩
set_option maxHeartbeats 4000000 in
set_option maxRecDepth 100000 in
theorem wayC {w : World} {now sent : Int} {Aw Af : Option Addr} {cw cf : Nat} {way : List S25} {fates : List S51} (hrw : Kd.C k25 w Aw way.length way) (hlw : way.length ≤ cw) (hrf : Kd.C k51 w Af fates.length fates) (hlf : fates.length ≤ cf) {x : S25} {A3 : Option Addr} {c3 : Nat} (hr3 : Kd.C (Kd.int .u8) w A3 x.f3.length x.f3) (hc3 : x.f3.length ≤ c3) (hl : way.length < 4096) (hb : bndB (x :: way) = true) :
    Calls Try.prog 41 #[.agg #[.int .i64 now, .int .i64 sent, .slice Aw way.length cw, .slice Af fates.length cf], .agg #[.int .i64 x.f0, .int .i64 x.f1, .int .i64 x.f2, .slice A3 x.f3.length c3]] w fun e w' => ∃ B d, e = .returned (.agg #[.int .i64 now, .int .i64 sent, .slice B (Hp.srt ltL (x :: way)).length d, .slice Af fates.length cf]) ∧ Kd.V k25 25 w' w.heap.size (fun k => w.heap.size ≤ k) (.slice B (Hp.srt ltL (x :: way)).length d) (Hp.srt ltL (x :: way)) ∧ Below w.heap.size w w' := by
  have hu44 := Try.underlying44
  have hu25 := Try.underlying25
  have HR := Aside0.mk (And.intro hrw (And.intro hr3 hb))
  have b1 : decide ((way.length : Int) < 4096) = true := decide_eq_true (by omega)
  have b2 : decide (way.length < 4096) = true := decide_eq_true hl
  clear hrw hrf hr3 hb
  go_enter Try.func41, Try.ntmps41
  go_wp2_with ((with_reducible refine gate_dst (N := 2) rfl ?_); refine Aside0.out (p := _) ?_)
  refine Aside0.mk ?_
  refine box_event (by rfl) (N := 2) rfl (cs := #[.int .i64 now, .int .i64 sent, .slice Aw way.length cw, .slice Af fates.length cf]) (t := 44) ?hr ?_
  case hr => first | (go_simp; done) | (go_simp; rfl)
  intro g1 hg1 v1 kg1 bg1
  have G1 := Aside0.mk (And.intro hg1 (And.intro kg1 bg1))
  clear hg1 kg1 bg1
  go_wp2_with ((with_reducible refine gate_dst (N := 3) rfl ?_); refine Aside0.out (p := _) ?_)
  refine Aside0.mk ?_
  refine box_event (by rfl) (N := 3) rfl (cs := #[.int .i64 x.f0, .int .i64 x.f1, .int .i64 x.f2, .slice A3 x.f3.length c3]) (t := 25) ?hr ?_
  case hr => first | (go_simp; done) | (go_simp; rfl)
  intro g2 hg2 v2 kg2 bg2
  have G2 := Aside0.mk (And.intro hg2 (And.intro kg2 bg2))
  clear hg2 kg2 bg2
  go_wp2_with ((with_reducible refine gate_dst (N := 4) rfl ?_); refine Aside0.out (p := _) ?_)
  refine Aside0.mk ?_
  refine box_event (by rfl) (N := 4) rfl (cs := #[.int .i64 0, .int .i64 0, .slice none 0 0, .slice none 0 0]) (t := 44) ?hr ?_
  case hr => first | (go_simp; done) | (go_simp; rfl)
  intro g3 hg3 v3 kg3 bg3
  have G3 := Aside0.mk (And.intro hg3 (And.intro kg3 bg3))
  clear hg3 kg3 bg3
  have HB : Aside0 (Below w.heap.size w v3 ∧ w.heap.size ≤ g1 ∧ g1 < g2 ∧ g2 < g3 ∧ g3 < v3.heap.size) := by
    have e1 := G1.out.2.2
    have e2 := e1.trans (G2.out.2.2.mono e1.size)
    have e3 := e2.trans (G3.out.2.2.mono e2.size)
    have l1 := blk_lt G1.out.2.1
    have l2 := blk_lt G2.out.2.1
    have l3 := blk_lt G3.out.2.1
    have a1 := G1.out.1
    have a2 := G2.out.1
    have a3 := G3.out.1
    exact ⟨e3, by omega, by omega, by omega, l3⟩
  have K2 := Aside0.mk ((G3.out.2.2.block _ (blk_lt G2.out.2.1)).trans G2.out.2.1)
  have K3 := Aside0.mk G3.out.2.1
  have K1 : Aside0 (v3.heap[g1]? = some (.cells #[.int .i64 now, .int .i64 sent, .slice Aw way.length cw, .slice Af fates.length cf] 44 (0, 0))) := by
    have h2 := (G2.out.2.2.block _ (blk_lt G1.out.2.1)).trans G1.out.2.1
    exact ⟨(G3.out.2.2.block _ (blk_lt h2)).trans h2⟩
  clear G1 G2 G3
  have q0 : v3.cell? ⟨g1, 0, none⟩ = some (.int .i64 now) := blk_cell K1.out 0
  have q1 : v3.cell? ⟨g1, 1, none⟩ = some (.int .i64 sent) := blk_cell K1.out 1
  have q2 : v3.cell? ⟨g1, 2, none⟩ = some (.slice Aw way.length cw) := blk_cell K1.out 2
  have q3 : v3.cell? ⟨g1, 3, none⟩ = some (.slice Af fates.length cf) := blk_cell K1.out 3
  have p0 : v3.cell? ⟨g2, 0, none⟩ = some (.int .i64 x.f0) := blk_cell K2.out 0
  have p1 : v3.cell? ⟨g2, 1, none⟩ = some (.int .i64 x.f1) := blk_cell K2.out 1
  have p2 : v3.cell? ⟨g2, 2, none⟩ = some (.int .i64 x.f2) := blk_cell K2.out 2
  have p3 : v3.cell? ⟨g2, 3, none⟩ = some (.slice A3 x.f3.length c3) := blk_cell K2.out 3
  go_wp2_with ((with_reducible refine gate_dst (N := 12) rfl ?_); refine Aside0.out (p := _) ?_)
  refine Aside0.mk ?_
  refine goesL_ (some 12) rfl rfl Try.func19 (by kernel_rfl) rfl #[.slice Aw way.length cw, .agg #[.int .i64 x.f0, .int .i64 x.f1, .int .i64 x.f2, .slice A3 x.f3.length c3]] rfl (by (try simp only [List.map_toArray, List.map_cons, List.map_nil, List.append_toArray, List.cons_append, List.nil_append]); first | done | rfl) ?_
  clear q0 q1 q2 q3
  clear p0 p1 p2 p3
  refine (put.calls Aw cw way x A3 c3 _ _ (Kd.C_below HR.out.1 HB.out.1) hlw (Kd.C_below HR.out.2.1 HB.out.1) hc3 (if_pos HR.out.2.2)).mono ?_
  rintro e v4 ⟨v, rfl, hv, hb⟩
  refine ⟨_, rfl, ?_⟩
  obtain ⟨B, d, rfl⟩ := Kd.V_slice hv
  generalize hT : Hp.srt ltL (x :: way) = T at hv ⊢
  have HV := Aside0.mk hv
  have n_ := Aside0.mk ((hb.block _ (blk_lt K1.out)).trans K1.out)
  clear K1
  have K1 := n_
  clear n_
  have n_ := Aside0.mk ((hb.block _ (blk_lt K3.out)).trans K3.out)
  clear K3 K2
  have K3 := n_
  have HB2 := Aside0.mk (HB.out.1.trans (hb.mono HB.out.1.size))
  clear n_ hv hb HR b1 b2
  go_wp2_with ((with_reducible refine gate_store (t := 22) (p := 13) rfl ?_); refine Aside0.out (p := _) ?_)
  refine Aside0.mk ?_
  refine store_seg [.slice B T.length d] #[.int .i64 now, .int .i64 sent, .slice B T.length d, .slice Af fates.length cf] K1.out rfl rfl rfl rfl rfl rfl (by kernel_rfl) (by simp) (by
    intro q hq
    simp only [List.mem_cons, List.not_mem_nil, or_false] at hq
    first | (rcases hq with rfl | rfl | rfl | rfl <;> rfl) | (subst hq; rfl)) rfl ?_
  intro v5 hk hne hB
  have n_ := Aside0.mk ((hne _ (by have := HB.out; omega)).trans K3.out)
  clear K3
  have K3 := n_
  clear n_
  have n_ := Aside0.mk (hB _ _ HB.out.2.1 HB2.out)
  clear HB2
  have HB2 := n_
  clear n_ K1
  have K1 := Aside0.mk hk
  have n_ := Aside0.mk (Kd.V_step HV.out (fun k hk _ => hne k (by have := HB.out; omega)))
  clear HV
  have HV := n_
  clear n_ hk hne hB
  have q0 : v5.cell? ⟨g1, 0, none⟩ = some (.int .i64 now) := blk_cell K1.out 0
  have q1 : v5.cell? ⟨g1, 1, none⟩ = some (.int .i64 sent) := blk_cell K1.out 1
  have q2 : v5.cell? ⟨g1, 2, none⟩ = some (.slice B T.length d) := blk_cell K1.out 2
  have q3 : v5.cell? ⟨g1, 3, none⟩ = some (.slice Af fates.length cf) := blk_cell K1.out 3
  go_wp2_with ((with_reducible refine gate_store (t := 44) (p := 4) rfl ?_); refine Aside0.out (p := _) ?_)
  refine Aside0.mk ?_
  refine store_seg [.int .i64 now, .int .i64 sent, .slice B T.length d, .slice Af fates.length cf] #[.int .i64 now, .int .i64 sent, .slice B T.length d, .slice Af fates.length cf] K3.out rfl rfl rfl rfl rfl rfl (by kernel_rfl) (by simp) (by
    intro q hq
    simp only [List.mem_cons, List.not_mem_nil, or_false] at hq
    first | (rcases hq with rfl | rfl | rfl | rfl <;> rfl) | (subst hq; rfl)) rfl ?_
  intro v6 hk hne hB
  clear q0 q1 q2 q3
  have K3b := Aside0.mk hk
  have HB3 := Aside0.mk (hB _ _ (by have := HB.out; omega) HB2.out)
  have HV2 := Aside0.mk (Kd.V_step HV.out (fun k hk _ => hne k (by have := HB.out; omega)))
  clear hk hne hB K3 HB2 HV K1
  have q0 : v6.cell? ⟨g3, 0, none⟩ = some (.int .i64 now) := blk_cell K3b.out 0
  have q1 : v6.cell? ⟨g3, 1, none⟩ = some (.int .i64 sent) := blk_cell K3b.out 1
  have q2 : v6.cell? ⟨g3, 2, none⟩ = some (.slice B T.length d) := blk_cell K3b.out 2
  have q3 : v6.cell? ⟨g3, 3, none⟩ = some (.slice Af fates.length cf) := blk_cell K3b.out 3
  go_wp2
  subst hT
  exact bodyPost_ret (v := .agg #[.int .i64 now, .int .i64 sent, .slice B (Hp.srt ltL (x :: way)).length d, .slice Af fates.length cf]) (by simp [results, Try.results41, go_sem, q0, q1, q2, q3]) rfl ⟨B, d, rfl, Kd.V_mono (Kd.V_lower HV2.out HB.out.1.size) (fun k hk => Nat.le_trans HB.out.1.size hk), HB3.out⟩
set_option maxHeartbeats 4000000 in
set_option maxRecDepth 100000 in
theorem tickC {w : World} {now sent : Int} {Aw Af : Option Addr} {cw cf : Nat} {way : List S25} {fates : List S51} (hrw : Kd.C k25 w Aw way.length way) (hlw : way.length ≤ cw) (hrf : Kd.C k51 w Af fates.length fates) (hlf : fates.length ≤ cf) (hl : way.length < 1099511627775 ∧ fates.length < 1099511627776) (hb : bndB way = true) (h0 : 0 ≤ now) (hg : goesB now sent way fates = true) :
    Calls Try.prog 24 #[.agg #[.int .i64 now, .int .i64 sent, .slice Aw way.length cw, .slice Af fates.length cf]] w fun e w' => ∃ B d B' d', e = .returned (.tuple #[.agg #[.int .i64 (now + 1), .int .i64 sent, .slice B (dueR way (now + 1)).length d, .slice Af fates.length cf], .slice B' (dueD way (now + 1)).length d', .int .i64 0]) ∧ Kd.V k25 25 w' w.heap.size (fun k => w.heap.size ≤ k) (.slice B (dueR way (now + 1)).length d) (dueR way (now + 1)) ∧ Kd.V k25 25 w' w.heap.size (fun k => w.heap.size ≤ k) (.slice B' (dueD way (now + 1)).length d') (dueD way (now + 1)) ∧ Below w.heap.size w w' := by
  have hu44 := Try.underlying44
  have hn := (goesB_iff.mp hg).2.1
  have HW := Aside0.mk (show wrap64 (now + 1) = now + 1 from w64_in (by omega) (by omega))
  have HR := Aside0.mk (And.intro hrw (And.intro hrf (And.intro hl (And.intro hb hg))))
  clear hrw hrf hb hg hn h0
  go_enter Try.func24, Try.ntmps24
  go_wp2_with ((with_reducible refine gate_dst (N := 1) rfl ?_); refine Aside0.out (p := _) ?_)
  refine Aside0.mk ?_
  refine box_event (by rfl) (N := 1) rfl (cs := #[.int .i64 now, .int .i64 sent, .slice Aw way.length cw, .slice Af fates.length cf]) (t := 44) ?hr ?_
  case hr => first | (go_simp; done) | (go_simp; rfl)
  intro g1 hg1 v1 kg1 bg1
  have G1 := Aside0.mk (And.intro hg1 (And.intro kg1 bg1))
  clear hg1 kg1 bg1
  go_wp2_with ((with_reducible refine gate_dst (N := 2) rfl ?_); refine Aside0.out (p := _) ?_)
  refine Aside0.mk ?_
  refine box_event (by rfl) (N := 2) rfl (cs := #[.int .i64 0, .int .i64 0, .slice none 0 0, .slice none 0 0]) (t := 44) ?hr ?_
  case hr => first | (go_simp; done) | (go_simp; rfl)
  intro g2 hg2 v2 kg2 bg2
  have G2 := Aside0.mk (And.intro hg2 (And.intro kg2 bg2))
  clear hg2 kg2 bg2
  have HB : Aside0 (Below w.heap.size w v2 ∧ w.heap.size ≤ g1 ∧ g1 < g2 ∧ g2 < v2.heap.size) := by
    have e1 := G1.out.2.2
    have e2 := e1.trans (G2.out.2.2.mono e1.size)
    have l1 := blk_lt G1.out.2.1
    have l2 := blk_lt G2.out.2.1
    have a1 := G1.out.1
    have a2 := G2.out.1
    exact ⟨e2, by omega, by omega, l2⟩
  have K1 := Aside0.mk ((G2.out.2.2.block _ (blk_lt G1.out.2.1)).trans G1.out.2.1)
  have K2 := Aside0.mk G2.out.2.1
  clear G1 G2
  have q0 : v2.cell? ⟨g1, 0, none⟩ = some (.int .i64 now) := blk_cell K1.out 0
  have q1 : v2.cell? ⟨g1, 1, none⟩ = some (.int .i64 sent) := blk_cell K1.out 1
  have q2 : v2.cell? ⟨g1, 2, none⟩ = some (.slice Aw way.length cw) := blk_cell K1.out 2
  have q3 : v2.cell? ⟨g1, 3, none⟩ = some (.slice Af fates.length cf) := blk_cell K1.out 3
  go_wp2_with ((with_reducible refine gate_dst (N := 8) rfl ?_); refine Aside0.out (p := _) ?_)
  refine Aside0.mk ?_
  refine goesL_ (some 8) rfl rfl Try.func38 (by kernel_rfl) rfl #[.agg #[.int .i64 now, .int .i64 sent, .slice Aw way.length cw, .slice Af fates.length cf]] rfl (by (try simp only [List.map_toArray, List.map_cons, List.map_nil, List.append_toArray, List.cons_append, List.nil_append]); first | done | rfl) ?_
  clear q0 q1 q2 q3
  refine (goesC (Kd.C_below HR.out.1 HB.out.1) hlw (Kd.C_below HR.out.2.1 HB.out.1) hlf ⟨by have := hl.1; omega, hl.2⟩ HR.out.2.2.2.2).mono ?_
  rintro e v3 ⟨rfl, hb⟩
  refine ⟨_, rfl, ?_⟩
  have n_ := Aside0.mk ((hb.block _ (blk_lt K1.out)).trans K1.out)
  clear K1
  have K1 := n_
  clear n_
  have n_ := Aside0.mk ((hb.block _ (blk_lt K2.out)).trans K2.out)
  clear K2
  have K2 := n_
  clear n_
  have HB2 := Aside0.mk (HB.out.1.trans (hb.mono HB.out.1.size))
  have HS := Aside0.mk hb.size
  clear hb
  have q0 : v3.cell? ⟨g1, 0, none⟩ = some (.int .i64 now) := blk_cell K1.out 0
  have q1 : v3.cell? ⟨g1, 1, none⟩ = some (.int .i64 sent) := blk_cell K1.out 1
  have q2 : v3.cell? ⟨g1, 2, none⟩ = some (.slice Aw way.length cw) := blk_cell K1.out 2
  have q3 : v3.cell? ⟨g1, 3, none⟩ = some (.slice Af fates.length cf) := blk_cell K1.out 3
  have f0 : v3.frozen? ⟨g1, 0, none⟩ = false := blk_frozen K1.out 0
  go_wp2_with ((with_reducible refine gate_store (t := 3) (p := 14) rfl ?_); refine Aside0.out (p := _) ?_)
  refine Aside0.mk ?_
  refine store_seg [.int .i64 (wrap64 (now + 1))] #[.int .i64 (wrap64 (now + 1)), .int .i64 sent, .slice Aw way.length cw, .slice Af fates.length cf] K1.out rfl rfl rfl rfl rfl rfl (by kernel_rfl) (by simp) (by
    intro q hq
    simp only [List.mem_cons, List.not_mem_nil, or_false] at hq
    first | (rcases hq with rfl | rfl | rfl | rfl <;> rfl) | (subst hq; rfl)) rfl ?_
  intro v4 hk hne hB
  clear q0 q1 q2 q3
  clear f0
  rw [HW.out] at hk
  clear K1
  have K1 := Aside0.mk hk
  have n_ := Aside0.mk ((hne _ (by have := HB.out; omega)).trans K2.out)
  clear K2
  have K2 := n_
  clear n_
  have n_ := Aside0.mk (hB _ _ (by have := HB.out; omega) HB2.out)
  clear HB2
  have HB2 := n_
  clear n_
  have HS4 : Aside0 (g2 < v4.heap.size) := ⟨blk_lt K2.out⟩
  clear hk hne hB
  have q0 : v4.cell? ⟨g1, 0, none⟩ = some (.int .i64 (now + 1)) := blk_cell K1.out 0
  have q1 : v4.cell? ⟨g1, 1, none⟩ = some (.int .i64 sent) := blk_cell K1.out 1
  have q2 : v4.cell? ⟨g1, 2, none⟩ = some (.slice Aw way.length cw) := blk_cell K1.out 2
  have q3 : v4.cell? ⟨g1, 3, none⟩ = some (.slice Af fates.length cf) := blk_cell K1.out 3
  go_wp2_with ((with_reducible refine gate_dst (N := 20) rfl ?_); refine Aside0.out (p := _) ?_)
  refine Aside0.mk ?_
  refine goesL_ (some 20) rfl rfl Try.func11 (by kernel_rfl) rfl #[.slice Aw way.length cw, .int .i64 (now + 1)] rfl (by (try simp only [List.map_toArray, List.map_cons, List.map_nil, List.append_toArray, List.cons_append, List.nil_append]); first | done | rfl) ?_
  clear q0 q1 q2 q3
  refine (due.calls Aw cw way (now + 1) _ _ (Kd.C_below HR.out.1 HB2.out) hlw (if_pos HR.out.2.2.2.1)).mono ?_
  rintro e v5 ⟨v, v', rfl, hv, hv', hb⟩
  refine ⟨_, rfl, ?_⟩
  obtain ⟨B', d', rfl⟩ := Kd.V_slice hv
  obtain ⟨B, d, rfl⟩ := Kd.V_slice hv'
  obtain ⟨D, hD⟩ : ∃ D, D = dueD way (now + 1) := ⟨_, rfl⟩
  obtain ⟨R, hR⟩ : ∃ R, R = dueR way (now + 1) := ⟨_, rfl⟩
  have hD' : (Hp.srt ltL way).filter (fun x => decide (x.f0 ≤ now + 1)) = D := hD.symm
  have hR' : (Hp.srt ltL way).filter (fun x => !decide (x.f0 ≤ now + 1)) = R := hR.symm
  have HDR := Aside0.mk (And.intro hD hR)
  simp only [hD', hR'] at hv hv' ⊢
  have HV := Aside0.mk hv
  have HV' := Aside0.mk hv'
  clear hD hR hD' hR'
  have n_ := Aside0.mk ((hb.block _ (blk_lt K1.out)).trans K1.out)
  clear K1
  have K1 := n_
  clear n_
  have n_ := Aside0.mk ((hb.block _ (blk_lt K2.out)).trans K2.out)
  clear K2
  have K2 := n_
  clear n_
  have n_ := Aside0.mk (HB2.out.trans (hb.mono HB2.out.size))
  clear HB2
  have HB2 := n_
  clear n_
  clear hv hv' hb
  have q0 : v5.cell? ⟨g1, 0, none⟩ = some (.int .i64 (now + 1)) := blk_cell K1.out 0
  have q1 : v5.cell? ⟨g1, 1, none⟩ = some (.int .i64 sent) := blk_cell K1.out 1
  have q2 : v5.cell? ⟨g1, 2, none⟩ = some (.slice Aw way.length cw) := blk_cell K1.out 2
  have q3 : v5.cell? ⟨g1, 3, none⟩ = some (.slice Af fates.length cf) := blk_cell K1.out 3
  go_wp2_with ((with_reducible refine gate_store (t := 22) (p := 24) rfl ?_); refine Aside0.out (p := _) ?_)
  refine Aside0.mk ?_
  refine store_seg [.slice B R.length d] #[.int .i64 (now + 1), .int .i64 sent, .slice B R.length d, .slice Af fates.length cf] K1.out rfl rfl rfl rfl rfl rfl (by kernel_rfl) (by simp) (by
    intro q hq
    simp only [List.mem_cons, List.not_mem_nil, or_false] at hq
    first | (rcases hq with rfl | rfl | rfl | rfl <;> rfl) | (subst hq; rfl)) rfl ?_
  intro v6 hk hne hB
  clear q0 q1 q2 q3
  clear K1
  have K1 := Aside0.mk hk
  have n_ := Aside0.mk ((hne _ (by have := HB.out; omega)).trans K2.out)
  clear K2
  have K2 := n_
  clear n_
  have n_ := Aside0.mk (hB _ _ (by have := HB.out; omega) HB2.out)
  clear HB2
  have HB2 := n_
  clear n_
  have n_ := Aside0.mk (Kd.V_step HV.out (fun k hk _ => hne k (by have := HB.out; have := HS4.out; omega)))
  clear HV
  have HV := n_
  clear n_
  have n_ := Aside0.mk (Kd.V_step HV'.out (fun k hk _ => hne k (by have := HB.out; have := HS4.out; omega)))
  clear HV'
  have HV' := n_
  clear n_
  clear hk hne hB
  have q0 : v6.cell? ⟨g1, 0, none⟩ = some (.int .i64 (now + 1)) := blk_cell K1.out 0
  have q1 : v6.cell? ⟨g1, 1, none⟩ = some (.int .i64 sent) := blk_cell K1.out 1
  have q2 : v6.cell? ⟨g1, 2, none⟩ = some (.slice B R.length d) := blk_cell K1.out 2
  have q3 : v6.cell? ⟨g1, 3, none⟩ = some (.slice Af fates.length cf) := blk_cell K1.out 3
  go_wp2_with ((with_reducible refine gate_store (t := 44) (p := 2) rfl ?_); refine Aside0.out (p := _) ?_)
  refine Aside0.mk ?_
  refine store_seg [.int .i64 (now + 1), .int .i64 sent, .slice B R.length d, .slice Af fates.length cf] #[.int .i64 (now + 1), .int .i64 sent, .slice B R.length d, .slice Af fates.length cf] K2.out rfl rfl rfl rfl rfl rfl (by kernel_rfl) (by simp) (by
    intro q hq
    simp only [List.mem_cons, List.not_mem_nil, or_false] at hq
    first | (rcases hq with rfl | rfl | rfl | rfl <;> rfl) | (subst hq; rfl)) rfl ?_
  intro v7 hk hne hB
  clear q0 q1 q2 q3
  clear K2
  have K2 := Aside0.mk hk
  have n_ := Aside0.mk (hB _ _ (by have := HB.out; omega) HB2.out)
  clear HB2
  have HB2 := n_
  clear n_
  have n_ := Aside0.mk (Kd.V_step HV.out (fun k hk _ => hne k (by have := HB.out; have := HS4.out; omega)))
  clear HV
  have HV := n_
  clear n_
  have n_ := Aside0.mk (Kd.V_step HV'.out (fun k hk _ => hne k (by have := HB.out; have := HS4.out; omega)))
  clear HV'
  have HV' := n_
  clear n_
  clear hk hne hB K1
  have q0 : v7.cell? ⟨g2, 0, none⟩ = some (.int .i64 (now + 1)) := blk_cell K2.out 0
  have q1 : v7.cell? ⟨g2, 1, none⟩ = some (.int .i64 sent) := blk_cell K2.out 1
  have q2 : v7.cell? ⟨g2, 2, none⟩ = some (.slice B R.length d) := blk_cell K2.out 2
  have q3 : v7.cell? ⟨g2, 3, none⟩ = some (.slice Af fates.length cf) := blk_cell K2.out 3
  go_wp2
  have hsz := HS4.out
  have hg := HB.out
  obtain ⟨hD, hR⟩ := HDR.out
  subst hD hR
  exact bodyPost_ret (v := .tuple #[.agg #[.int .i64 (now + 1), .int .i64 sent, .slice B (dueR way (now + 1)).length d, .slice Af fates.length cf], .slice B' (dueD way (now + 1)).length d', .int .i64 0]) (by simp [results, Try.results24, go_sem, q0, q1, q2, q3]) rfl ⟨B, d, B', d', rfl, Kd.V_mono (Kd.V_lower HV'.out (by omega)) (fun k hk => by have : v4.heap.size ≤ k := hk; omega), Kd.V_mono (Kd.V_lower HV.out (by omega)) (fun k hk => by have : v4.heap.size ≤ k := hk; omega), HB2.out⟩
theorem knownC (w : World) (tt : Int) : Calls Try.prog 39 #[.int .i64 tt] w fun e w' => e = .returned (.bool (decide (tt = 0 ∨ tt = 1))) ∧ Below w.heap.size w w' := by
  have hf : net_known.f tt = some (decide (tt = 0 ∨ tt = 1)) := by
    unfold net_known.f
    by_cases h0 : tt = 0
    · rw [if_pos h0]; simp [h0]
    · rw [if_neg h0]
      by_cases h1 : tt = 1
      · simp [h1]
      · have : (tt == 1) = false := beq_eq_false_iff_ne.mpr h1
        rw [this]; simp [h0, h1]
  exact (net_known.calls tt _ w hf).mono (fun e w' ⟨h1, h2⟩ => ⟨h1, h2.below⟩)
set_option maxHeartbeats 4000000 in
set_option maxRecDepth 100000 in
theorem slipErr {w : World} {now sent : Int} {Aw Af : Option Addr} {cw cf : Nat} {way : List S25} {fates : List S51} (hrw : Kd.C k25 w Aw way.length way) (hlw : way.length ≤ cw) (hrf : Kd.C k51 w Af fates.length fates) (hlf : fates.length ≤ cf) {x : S25} {A3 : Option Addr} {c3 : Nat} (hr3 : Kd.C (Kd.int .u8) w A3 x.f3.length x.f3) (hc3 : x.f3.length ≤ c3) (hl : way.length < 4096 ∧ fates.length < 1099511627776) (hg : goesB now sent way fates = true) (hf : ¬ (x.f2 = 0 ∨ x.f2 = 1) ∨ x.f0 ≤ now) :
    Calls Try.prog 26 #[.agg #[.int .i64 now, .int .i64 sent, .slice Aw way.length cw, .slice Af fates.length cf], .agg #[.int .i64 x.f0, .int .i64 x.f1, .int .i64 x.f2, .slice A3 x.f3.length c3]] w fun e w' => e = .returned (.tuple #[.agg #[.int .i64 now, .int .i64 sent, .slice Aw way.length cw, .slice Af fates.length cf], .int .i64 1]) ∧ Below w.heap.size w w' := by
  have hu44 := Try.underlying44
  have hu25 := Try.underlying25
  have HR := Aside0.mk (And.intro hrw (And.intro hrf (And.intro hr3 hg)))
  clear hrw hrf hr3 hg
  go_enter Try.func26, Try.ntmps26
  go_wp2_with ((with_reducible refine gate_dst (N := 2) rfl ?_); refine Aside0.out (p := _) ?_)
  refine Aside0.mk ?_
  refine box_event (by rfl) (N := 2) rfl (cs := #[.int .i64 now, .int .i64 sent, .slice Aw way.length cw, .slice Af fates.length cf]) (t := 44) ?hr ?_
  case hr => first | (go_simp; done) | (go_simp; rfl)
  intro g1 hg1 v1 kg1 bg1
  have G1 := Aside0.mk (And.intro hg1 (And.intro kg1 bg1))
  clear hg1 kg1 bg1
  go_wp2_with ((with_reducible refine gate_dst (N := 3) rfl ?_); refine Aside0.out (p := _) ?_)
  refine Aside0.mk ?_
  refine box_event (by rfl) (N := 3) rfl (cs := #[.int .i64 x.f0, .int .i64 x.f1, .int .i64 x.f2, .slice A3 x.f3.length c3]) (t := 25) ?hr ?_
  case hr => first | (go_simp; done) | (go_simp; rfl)
  intro g2 hg2 v2 kg2 bg2
  have G2 := Aside0.mk (And.intro hg2 (And.intro kg2 bg2))
  clear hg2 kg2 bg2
  go_wp2_with ((with_reducible refine gate_dst (N := 4) rfl ?_); refine Aside0.out (p := _) ?_)
  refine Aside0.mk ?_
  refine box_event (by rfl) (N := 4) rfl (cs := #[.int .i64 0, .int .i64 0, .slice none 0 0, .slice none 0 0]) (t := 44) ?hr ?_
  case hr => first | (go_simp; done) | (go_simp; rfl)
  intro g3 hg3 v3 kg3 bg3
  have G3 := Aside0.mk (And.intro hg3 (And.intro kg3 bg3))
  clear hg3 kg3 bg3
  have HB : Aside0 (Below w.heap.size w v3 ∧ w.heap.size ≤ g1 ∧ g1 < g2 ∧ g2 < g3 ∧ g3 < v3.heap.size) := by
    have e1 := G1.out.2.2
    have e2 := e1.trans (G2.out.2.2.mono e1.size)
    have e3 := e2.trans (G3.out.2.2.mono e2.size)
    have l1 := blk_lt G1.out.2.1
    have l2 := blk_lt G2.out.2.1
    have l3 := blk_lt G3.out.2.1
    have a1 := G1.out.1
    have a2 := G2.out.1
    have a3 := G3.out.1
    exact ⟨e3, by omega, by omega, by omega, l3⟩
  have K2 := Aside0.mk ((G3.out.2.2.block _ (blk_lt G2.out.2.1)).trans G2.out.2.1)
  have K3 := Aside0.mk G3.out.2.1
  have K1 : Aside0 (v3.heap[g1]? = some (.cells #[.int .i64 now, .int .i64 sent, .slice Aw way.length cw, .slice Af fates.length cf] 44 (0, 0))) := by
    have h2 := (G2.out.2.2.block _ (blk_lt G1.out.2.1)).trans G1.out.2.1
    exact ⟨(G3.out.2.2.block _ (blk_lt h2)).trans h2⟩
  clear G1 G2 G3
  have q0 : v3.cell? ⟨g1, 0, none⟩ = some (.int .i64 now) := blk_cell K1.out 0
  have q1 : v3.cell? ⟨g1, 1, none⟩ = some (.int .i64 sent) := blk_cell K1.out 1
  have q2 : v3.cell? ⟨g1, 2, none⟩ = some (.slice Aw way.length cw) := blk_cell K1.out 2
  have q3 : v3.cell? ⟨g1, 3, none⟩ = some (.slice Af fates.length cf) := blk_cell K1.out 3
  go_wp2_with ((with_reducible refine gate_dst (N := 8) rfl ?_); refine Aside0.out (p := _) ?_)
  refine Aside0.mk ?_
  refine goesL_ (some 8) rfl rfl Try.func38 (by kernel_rfl) rfl #[.agg #[.int .i64 now, .int .i64 sent, .slice Aw way.length cw, .slice Af fates.length cf]] rfl (by (try simp only [List.map_toArray, List.map_cons, List.map_nil, List.append_toArray, List.cons_append, List.nil_append]); first | done | rfl) ?_
  clear q0 q1 q2 q3
  refine (goesC (Kd.C_below HR.out.1 HB.out.1) hlw (Kd.C_below HR.out.2.1 HB.out.1) hlf ⟨by have := hl.1; omega, hl.2⟩ HR.out.2.2.2).mono ?_
  rintro e v4 ⟨rfl, hb⟩
  refine ⟨_, rfl, ?_⟩
  have n_ := Aside0.mk ((hb.block _ (blk_lt K1.out)).trans K1.out)
  clear K1
  have K1 := n_
  clear n_
  have n_ := Aside0.mk ((hb.block _ (blk_lt K2.out)).trans K2.out)
  clear K2
  have K2 := n_
  clear n_
  have n_ := Aside0.mk ((hb.block _ (blk_lt K3.out)).trans K3.out)
  clear K3
  have K3 := n_
  clear n_
  have HB2 := Aside0.mk (HB.out.1.trans (hb.mono HB.out.1.size))
  clear hb
  have p0 : v4.cell? ⟨g2, 0, none⟩ = some (.int .i64 x.f0) := blk_cell K2.out 0
  have p1 : v4.cell? ⟨g2, 1, none⟩ = some (.int .i64 x.f1) := blk_cell K2.out 1
  have p2 : v4.cell? ⟨g2, 2, none⟩ = some (.int .i64 x.f2) := blk_cell K2.out 2
  have p3 : v4.cell? ⟨g2, 3, none⟩ = some (.slice A3 x.f3.length c3) := blk_cell K2.out 3
  go_wp2_with ((with_reducible refine gate_dst (N := 13) rfl ?_); refine Aside0.out (p := _) ?_)
  refine Aside0.mk ?_
  refine gate_guard (by rfl) ?_
  dsimp only
  refine goesL_ (some 13) rfl rfl Try.func39 (by kernel_rfl) rfl #[.int .i64 x.f2] rfl (by (try simp only [List.map_toArray, List.map_cons, List.map_nil, List.append_toArray, List.cons_append, List.nil_append]); first | done | rfl) ?_
  clear p0 p1 p2 p3
  refine (knownC _ _).mono ?_
  rintro e v5 ⟨rfl, hb⟩
  refine ⟨_, rfl, ?_⟩
  have n_ := Aside0.mk ((hb.block _ (blk_lt K1.out)).trans K1.out)
  clear K1
  have K1 := n_
  clear n_
  have n_ := Aside0.mk ((hb.block _ (blk_lt K2.out)).trans K2.out)
  clear K2
  have K2 := n_
  clear n_
  have n_ := Aside0.mk ((hb.block _ (blk_lt K3.out)).trans K3.out)
  clear K3
  have K3 := n_
  clear n_
  have n_ := Aside0.mk (HB2.out.trans (hb.mono HB2.out.size))
  clear HB2
  have HB2 := n_
  clear n_
  clear hb
  cases hkn : decide (x.f2 = 0 ∨ x.f2 = 1) with
  | false =>
    have q0 : v5.cell? ⟨g1, 0, none⟩ = some (.int .i64 now) := blk_cell K1.out 0
    have q1 : v5.cell? ⟨g1, 1, none⟩ = some (.int .i64 sent) := blk_cell K1.out 1
    have q2 : v5.cell? ⟨g1, 2, none⟩ = some (.slice Aw way.length cw) := blk_cell K1.out 2
    have q3 : v5.cell? ⟨g1, 3, none⟩ = some (.slice Af fates.length cf) := blk_cell K1.out 3
    have p0 : v5.cell? ⟨g2, 0, none⟩ = some (.int .i64 x.f0) := blk_cell K2.out 0
    have p1 : v5.cell? ⟨g2, 1, none⟩ = some (.int .i64 x.f1) := blk_cell K2.out 1
    have p2 : v5.cell? ⟨g2, 2, none⟩ = some (.int .i64 x.f2) := blk_cell K2.out 2
    have p3 : v5.cell? ⟨g2, 3, none⟩ = some (.slice A3 x.f3.length c3) := blk_cell K2.out 3
    go_wp2_with ((with_reducible refine gate_store (t := 44) (p := 4) rfl ?_); refine Aside0.out (p := _) ?_)
    refine Aside0.mk ?_
    refine store_seg [.int .i64 now, .int .i64 sent, .slice Aw way.length cw, .slice Af fates.length cf] #[.int .i64 now, .int .i64 sent, .slice Aw way.length cw, .slice Af fates.length cf] K3.out rfl rfl rfl rfl rfl rfl (by kernel_rfl) (by simp) (by
      intro q hq
      simp only [List.mem_cons, List.not_mem_nil, or_false] at hq
      first | (rcases hq with rfl | rfl | rfl | rfl <;> rfl) | (subst hq; rfl)) rfl ?_
    intro v6 hk hne hB
    clear q0 q1 q2 q3
    clear p0 p1 p2 p3
    clear K3
    have K3 := Aside0.mk hk
    have n_ := Aside0.mk (hB _ _ (by have := HB.out; omega) HB2.out)
    clear HB2
    have HB2 := n_
    clear n_
    clear hk hne hB
    have q0 : v6.cell? ⟨g3, 0, none⟩ = some (.int .i64 now) := blk_cell K3.out 0
    have q1 : v6.cell? ⟨g3, 1, none⟩ = some (.int .i64 sent) := blk_cell K3.out 1
    have q2 : v6.cell? ⟨g3, 2, none⟩ = some (.slice Aw way.length cw) := blk_cell K3.out 2
    have q3 : v6.cell? ⟨g3, 3, none⟩ = some (.slice Af fates.length cf) := blk_cell K3.out 3
    go_wp2
    exact bodyPost_ret (v := .tuple #[.agg #[.int .i64 now, .int .i64 sent, .slice Aw way.length cw, .slice Af fates.length cf], .int .i64 1]) (by simp [results, Try.results26, go_sem, q0, q1, q2, q3]) rfl ⟨rfl, HB2.out⟩
  | true =>
    have ha : x.f0 ≤ now := by
      rcases hf with h | h
      · exact absurd (of_decide_eq_true hkn) h
      · exact h
    have b1 : decide (x.f0 ≤ now) = true := decide_eq_true ha
    have q0 : v5.cell? ⟨g1, 0, none⟩ = some (.int .i64 now) := blk_cell K1.out 0
    have q1 : v5.cell? ⟨g1, 1, none⟩ = some (.int .i64 sent) := blk_cell K1.out 1
    have q2 : v5.cell? ⟨g1, 2, none⟩ = some (.slice Aw way.length cw) := blk_cell K1.out 2
    have q3 : v5.cell? ⟨g1, 3, none⟩ = some (.slice Af fates.length cf) := blk_cell K1.out 3
    have p0 : v5.cell? ⟨g2, 0, none⟩ = some (.int .i64 x.f0) := blk_cell K2.out 0
    have p1 : v5.cell? ⟨g2, 1, none⟩ = some (.int .i64 x.f1) := blk_cell K2.out 1
    have p2 : v5.cell? ⟨g2, 2, none⟩ = some (.int .i64 x.f2) := blk_cell K2.out 2
    have p3 : v5.cell? ⟨g2, 3, none⟩ = some (.slice A3 x.f3.length c3) := blk_cell K2.out 3
    go_wp2_with ((with_reducible refine gate_store (t := 44) (p := 4) rfl ?_); refine Aside0.out (p := _) ?_)
    refine Aside0.mk ?_
    refine store_seg [.int .i64 now, .int .i64 sent, .slice Aw way.length cw, .slice Af fates.length cf] #[.int .i64 now, .int .i64 sent, .slice Aw way.length cw, .slice Af fates.length cf] K3.out rfl rfl rfl rfl rfl rfl (by kernel_rfl) (by simp) (by
      intro q hq
      simp only [List.mem_cons, List.not_mem_nil, or_false] at hq
      first | (rcases hq with rfl | rfl | rfl | rfl <;> rfl) | (subst hq; rfl)) rfl ?_
    intro v6 hk hne hB
    clear q0 q1 q2 q3
    clear p0 p1 p2 p3
    clear K3
    have K3 := Aside0.mk hk
    have n_ := Aside0.mk (hB _ _ (by have := HB.out; omega) HB2.out)
    clear HB2
    have HB2 := n_
    clear n_
    clear hk hne hB
    have q0 : v6.cell? ⟨g3, 0, none⟩ = some (.int .i64 now) := blk_cell K3.out 0
    have q1 : v6.cell? ⟨g3, 1, none⟩ = some (.int .i64 sent) := blk_cell K3.out 1
    have q2 : v6.cell? ⟨g3, 2, none⟩ = some (.slice Aw way.length cw) := blk_cell K3.out 2
    have q3 : v6.cell? ⟨g3, 3, none⟩ = some (.slice Af fates.length cf) := blk_cell K3.out 3
    go_wp2
    exact bodyPost_ret (v := .tuple #[.agg #[.int .i64 now, .int .i64 sent, .slice Aw way.length cw, .slice Af fates.length cf], .int .i64 1]) (by simp [results, Try.results26, go_sem, q0, q1, q2, q3]) rfl ⟨rfl, HB2.out⟩
set_option maxHeartbeats 4000000 in
set_option maxRecDepth 100000 in
theorem slipOk {w : World} {now sent : Int} {Aw Af : Option Addr} {cw cf : Nat} {way : List S25} {fates : List S51} (hrw : Kd.C k25 w Aw way.length way) (hlw : way.length ≤ cw) (hrf : Kd.C k51 w Af fates.length fates) (hlf : fates.length ≤ cf) {x : S25} {A3 : Option Addr} {c3 : Nat} (hr3 : Kd.C (Kd.int .u8) w A3 x.f3.length x.f3) (hc3 : x.f3.length ≤ c3) (hl : way.length < 4096 ∧ fates.length < 1099511627776) (hg : goesB now sent way fates = true) (hk2 : (x.f2 = 0 ∨ x.f2 = 1) ∧ now < x.f0) (hbn : bndB (x :: way) = true) :
    Calls Try.prog 26 #[.agg #[.int .i64 now, .int .i64 sent, .slice Aw way.length cw, .slice Af fates.length cf], .agg #[.int .i64 x.f0, .int .i64 x.f1, .int .i64 x.f2, .slice A3 x.f3.length c3]] w fun e w' => ∃ B d, e = .returned (.tuple #[.agg #[.int .i64 now, .int .i64 sent, .slice B (Hp.srt ltL (x :: way)).length d, .slice Af fates.length cf], .int .i64 0]) ∧ Kd.V k25 25 w' w.heap.size (fun k => w.heap.size ≤ k) (.slice B (Hp.srt ltL (x :: way)).length d) (Hp.srt ltL (x :: way)) ∧ Below w.heap.size w w' := by
  have hu44 := Try.underlying44
  have hu25 := Try.underlying25
  have HR := Aside0.mk (And.intro hrw (And.intro hrf (And.intro hr3 hg)))
  clear hrw hrf hr3 hg
  go_enter Try.func26, Try.ntmps26
  go_wp2_with ((with_reducible refine gate_dst (N := 2) rfl ?_); refine Aside0.out (p := _) ?_)
  refine Aside0.mk ?_
  refine box_event (by rfl) (N := 2) rfl (cs := #[.int .i64 now, .int .i64 sent, .slice Aw way.length cw, .slice Af fates.length cf]) (t := 44) ?hr ?_
  case hr => first | (go_simp; done) | (go_simp; rfl)
  intro g1 hg1 v1 kg1 bg1
  have G1 := Aside0.mk (And.intro hg1 (And.intro kg1 bg1))
  clear hg1 kg1 bg1
  go_wp2_with ((with_reducible refine gate_dst (N := 3) rfl ?_); refine Aside0.out (p := _) ?_)
  refine Aside0.mk ?_
  refine box_event (by rfl) (N := 3) rfl (cs := #[.int .i64 x.f0, .int .i64 x.f1, .int .i64 x.f2, .slice A3 x.f3.length c3]) (t := 25) ?hr ?_
  case hr => first | (go_simp; done) | (go_simp; rfl)
  intro g2 hg2 v2 kg2 bg2
  have G2 := Aside0.mk (And.intro hg2 (And.intro kg2 bg2))
  clear hg2 kg2 bg2
  go_wp2_with ((with_reducible refine gate_dst (N := 4) rfl ?_); refine Aside0.out (p := _) ?_)
  refine Aside0.mk ?_
  refine box_event (by rfl) (N := 4) rfl (cs := #[.int .i64 0, .int .i64 0, .slice none 0 0, .slice none 0 0]) (t := 44) ?hr ?_
  case hr => first | (go_simp; done) | (go_simp; rfl)
  intro g3 hg3 v3 kg3 bg3
  have G3 := Aside0.mk (And.intro hg3 (And.intro kg3 bg3))
  clear hg3 kg3 bg3
  have HB : Aside0 (Below w.heap.size w v3 ∧ w.heap.size ≤ g1 ∧ g1 < g2 ∧ g2 < g3 ∧ g3 < v3.heap.size) := by
    have e1 := G1.out.2.2
    have e2 := e1.trans (G2.out.2.2.mono e1.size)
    have e3 := e2.trans (G3.out.2.2.mono e2.size)
    have l1 := blk_lt G1.out.2.1
    have l2 := blk_lt G2.out.2.1
    have l3 := blk_lt G3.out.2.1
    have a1 := G1.out.1
    have a2 := G2.out.1
    have a3 := G3.out.1
    exact ⟨e3, by omega, by omega, by omega, l3⟩
  have K2 := Aside0.mk ((G3.out.2.2.block _ (blk_lt G2.out.2.1)).trans G2.out.2.1)
  have K3 := Aside0.mk G3.out.2.1
  have K1 : Aside0 (v3.heap[g1]? = some (.cells #[.int .i64 now, .int .i64 sent, .slice Aw way.length cw, .slice Af fates.length cf] 44 (0, 0))) := by
    have h2 := (G2.out.2.2.block _ (blk_lt G1.out.2.1)).trans G1.out.2.1
    exact ⟨(G3.out.2.2.block _ (blk_lt h2)).trans h2⟩
  clear G1 G2 G3
  have q0 : v3.cell? ⟨g1, 0, none⟩ = some (.int .i64 now) := blk_cell K1.out 0
  have q1 : v3.cell? ⟨g1, 1, none⟩ = some (.int .i64 sent) := blk_cell K1.out 1
  have q2 : v3.cell? ⟨g1, 2, none⟩ = some (.slice Aw way.length cw) := blk_cell K1.out 2
  have q3 : v3.cell? ⟨g1, 3, none⟩ = some (.slice Af fates.length cf) := blk_cell K1.out 3
  go_wp2_with ((with_reducible refine gate_dst (N := 8) rfl ?_); refine Aside0.out (p := _) ?_)
  refine Aside0.mk ?_
  refine goesL_ (some 8) rfl rfl Try.func38 (by kernel_rfl) rfl #[.agg #[.int .i64 now, .int .i64 sent, .slice Aw way.length cw, .slice Af fates.length cf]] rfl (by (try simp only [List.map_toArray, List.map_cons, List.map_nil, List.append_toArray, List.cons_append, List.nil_append]); first | done | rfl) ?_
  clear q0 q1 q2 q3
  refine (goesC (Kd.C_below HR.out.1 HB.out.1) hlw (Kd.C_below HR.out.2.1 HB.out.1) hlf ⟨by have := hl.1; omega, hl.2⟩ HR.out.2.2.2).mono ?_
  rintro e v4 ⟨rfl, hb⟩
  refine ⟨_, rfl, ?_⟩
  have n_ := Aside0.mk ((hb.block _ (blk_lt K1.out)).trans K1.out)
  clear K1
  have K1 := n_
  clear n_
  have n_ := Aside0.mk ((hb.block _ (blk_lt K2.out)).trans K2.out)
  clear K2
  have K2 := n_
  clear n_
  have n_ := Aside0.mk ((hb.block _ (blk_lt K3.out)).trans K3.out)
  clear K3
  have K3 := n_
  clear n_
  have HB2 := Aside0.mk (HB.out.1.trans (hb.mono HB.out.1.size))
  clear hb
  have p0 : v4.cell? ⟨g2, 0, none⟩ = some (.int .i64 x.f0) := blk_cell K2.out 0
  have p1 : v4.cell? ⟨g2, 1, none⟩ = some (.int .i64 x.f1) := blk_cell K2.out 1
  have p2 : v4.cell? ⟨g2, 2, none⟩ = some (.int .i64 x.f2) := blk_cell K2.out 2
  have p3 : v4.cell? ⟨g2, 3, none⟩ = some (.slice A3 x.f3.length c3) := blk_cell K2.out 3
  go_wp2_with ((with_reducible refine gate_dst (N := 13) rfl ?_); refine Aside0.out (p := _) ?_)
  refine Aside0.mk ?_
  refine gate_guard (by rfl) ?_
  dsimp only
  refine goesL_ (some 13) rfl rfl Try.func39 (by kernel_rfl) rfl #[.int .i64 x.f2] rfl (by (try simp only [List.map_toArray, List.map_cons, List.map_nil, List.append_toArray, List.cons_append, List.nil_append]); first | done | rfl) ?_
  clear p0 p1 p2 p3
  refine (knownC _ _).mono ?_
  rintro e v5 ⟨rfl, hb⟩
  refine ⟨_, rfl, ?_⟩
  have n_ := Aside0.mk ((hb.block _ (blk_lt K1.out)).trans K1.out)
  clear K1
  have K1 := n_
  clear n_
  have n_ := Aside0.mk ((hb.block _ (blk_lt K2.out)).trans K2.out)
  clear K2
  have K2 := n_
  clear n_
  have n_ := Aside0.mk ((hb.block _ (blk_lt K3.out)).trans K3.out)
  clear K3
  have K3 := n_
  clear n_
  have n_ := Aside0.mk (HB2.out.trans (hb.mono HB2.out.size))
  clear HB2
  have HB2 := n_
  clear n_
  clear hb
  rw [decide_eq_true hk2.1]
  have b1 : decide (x.f0 ≤ now) = false := decide_eq_false (by omega)
  have b2 : ((way.length : Int) == 4096) = false := beq_eq_false_iff_ne.mpr (by omega)
  have b3 : decide (way.length = 4096) = false := decide_eq_false (by omega)
  have b4 : (way.length == 4096) = false := beq_eq_false_iff_ne.mpr (by omega)
  have q0 : v5.cell? ⟨g1, 0, none⟩ = some (.int .i64 now) := blk_cell K1.out 0
  have q1 : v5.cell? ⟨g1, 1, none⟩ = some (.int .i64 sent) := blk_cell K1.out 1
  have q2 : v5.cell? ⟨g1, 2, none⟩ = some (.slice Aw way.length cw) := blk_cell K1.out 2
  have q3 : v5.cell? ⟨g1, 3, none⟩ = some (.slice Af fates.length cf) := blk_cell K1.out 3
  have p0 : v5.cell? ⟨g2, 0, none⟩ = some (.int .i64 x.f0) := blk_cell K2.out 0
  have p1 : v5.cell? ⟨g2, 1, none⟩ = some (.int .i64 x.f1) := blk_cell K2.out 1
  have p2 : v5.cell? ⟨g2, 2, none⟩ = some (.int .i64 x.f2) := blk_cell K2.out 2
  have p3 : v5.cell? ⟨g2, 3, none⟩ = some (.slice A3 x.f3.length c3) := blk_cell K2.out 3
  go_wp2_with ((with_reducible refine gate_dst (N := 32) rfl ?_); refine Aside0.out (p := _) ?_)
  refine Aside0.mk ?_
  refine goesL_ (some 32) rfl rfl Try.func41 (by kernel_rfl) rfl #[.agg #[.int .i64 now, .int .i64 sent, .slice Aw way.length cw, .slice Af fates.length cf], .agg #[.int .i64 x.f0, .int .i64 x.f1, .int .i64 x.f2, .slice A3 x.f3.length c3]] rfl (by (try simp only [List.map_toArray, List.map_cons, List.map_nil, List.append_toArray, List.cons_append, List.nil_append]); first | done | rfl) ?_
  clear q0 q1 q2 q3
  clear p0 p1 p2 p3
  refine (wayC (Kd.C_below HR.out.1 HB2.out) hlw (Kd.C_below HR.out.2.1 HB2.out) hlf (Kd.C_below HR.out.2.2.1 HB2.out) hc3 hl.1 hbn).mono ?_
  rintro e v6 ⟨B, d, rfl, hv, hb⟩
  refine ⟨_, rfl, ?_⟩
  generalize hT : Hp.srt ltL (x :: way) = T at hv ⊢
  have HS := Aside0.mk HB2.out.size
  have HV := Aside0.mk hv
  have HS5 := Aside0.mk (blk_lt K3.out)
  have n_ := Aside0.mk ((hb.block _ (blk_lt K3.out)).trans K3.out)
  clear K3
  have K3 := n_
  clear n_
  have n_ := Aside0.mk (HB2.out.trans (hb.mono HB2.out.size))
  clear HB2
  have HB2 := n_
  clear n_
  clear hv hb K1 K2 b1 b2 b3 b4
  go_wp2_with ((with_reducible refine gate_store (t := 44) (p := 4) rfl ?_); refine Aside0.out (p := _) ?_)
  refine Aside0.mk ?_
  refine store_seg [.int .i64 now, .int .i64 sent, .slice B T.length d, .slice Af fates.length cf] #[.int .i64 now, .int .i64 sent, .slice B T.length d, .slice Af fates.length cf] K3.out rfl rfl rfl rfl rfl rfl (by kernel_rfl) (by simp) (by
    intro q hq
    simp only [List.mem_cons, List.not_mem_nil, or_false] at hq
    first | (rcases hq with rfl | rfl | rfl | rfl <;> rfl) | (subst hq; rfl)) rfl ?_
  intro v7 hk hne hB
  clear K3
  have K3 := Aside0.mk hk
  have n_ := Aside0.mk (hB _ _ (by have := HB.out; omega) HB2.out)
  clear HB2
  have HB2 := n_
  clear n_
  have n_ := Aside0.mk (Kd.V_step HV.out (fun k hk _ => hne k (by have := HS5.out; omega)))
  clear HV
  have HV := n_
  clear n_
  clear hk hne hB
  have q0 : v7.cell? ⟨g3, 0, none⟩ = some (.int .i64 now) := blk_cell K3.out 0
  have q1 : v7.cell? ⟨g3, 1, none⟩ = some (.int .i64 sent) := blk_cell K3.out 1
  have q2 : v7.cell? ⟨g3, 2, none⟩ = some (.slice B T.length d) := blk_cell K3.out 2
  have q3 : v7.cell? ⟨g3, 3, none⟩ = some (.slice Af fates.length cf) := blk_cell K3.out 3
  go_wp2
  subst hT
  exact bodyPost_ret (v := .tuple #[.agg #[.int .i64 now, .int .i64 sent, .slice B (Hp.srt ltL (x :: way)).length d, .slice Af fates.length cf], .int .i64 0]) (by simp [results, Try.results26, go_sem, q0, q1, q2, q3]) rfl ⟨B, d, rfl, Kd.V_mono (Kd.V_lower HV.out HS.out) (fun k hk => Nat.le_trans HS.out hk), HB2.out⟩
end Go.Proofs.Ytghkngdcmlhmeaa.Nw

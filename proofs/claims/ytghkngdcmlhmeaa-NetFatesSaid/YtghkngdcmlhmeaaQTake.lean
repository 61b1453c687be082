/- The pile: made of a list, its top taken, taken as long as letters are such. -/
import Derived.Test.YtghkngdcmlhmeaaQHeap
import Derived.Test.YtghkngdcmlhmeaaPQux4
import Derived.Test.YtghkngdcmlhmeaaPQux2
set_option linter.unusedVariables false
set_option linter.unusedSimpArgs false
set_option linter.unusedSectionVars false
namespace Go.Proofs.Ytghkngdcmlhmeaa.Qp
open Go.RowKit Go.Proofs Go.Proofs.Ytghkngdcmlhmeaa.PQu Go.Proofs.YtghkngdcmlhmeaaW.PrintWords Go.Proofs.YtghkngdcmlhmeaaW.PrintLast Go.Proofs.YtghkngdcmlhmeaaW.PrintMore
/-- A call of a function value, the operation's guard (if it has one) on. -/
theorem goesW_ {P : Program} {ops : Array Oper} {rest : List Oper} {a : Act} {Q : Exit → Act → World → Prop} {oi : Oper} {W : World} (N : Option Tmp) (hd : oi.dst = N) (hw : Region.wanted oi (yielded ops a.tmps) = true) {f : FuncId} {fn : Func} {x : Operand} {cs : Array Value} {os : Array Operand} {ts : Array TypeId} (hf : P.funcs[f]? = some fn) (hname : (fn.name == "runtime.NumGoroutine") = false) (hb : fn.body.isSome = true) (args : Array Value)
    (hop : oi.op = .call { callee := .value x, args := os, argTypes := ts }) (hx : a.eval x = .func (.func f) #[] cs) (hargs : os.map a.eval ++ cs = args)
    (h : Calls P f args W fun e w' => ∃ v, e = .returned v ∧ wpList P ops Q rest (a.put N v) w') : wpList P ops Q (oi :: rest) a W := by
  have he := enters_ hf hname hb args W
  have hrun : (execOp a.eval oi).run P W = .ok (.enter f args) W := by
    unfold execOp
    simp [hop, resolve, Deferred.ofValue, invoke, hx, hargs, he]
  unfold wpList
  rw [if_pos hw]
  refine .inl ?_
  unfold Oper.wp
  rw [hrun, Oper.upon_enter]
  refine h.mono fun e w'' hh => ?_
  obtain ⟨v, rfl, hk⟩ := hh
  subst hd
  exact hk
def PiledPost (w : World) (l : List S25) (e : Ending) (w' : World) : Prop := ∃ Pb S v, e = .returned (.pointer (some ⟨Pb, 0, none⟩)) ∧ Pile w w' Pb S v (Hp.heaped ltL z25 l) ∧ Below w.heap.size w w' ∧ (∀ k, k < w.heap.size → S k)
set_option maxHeartbeats 4000000 in
set_option maxRecDepth 100000 in
theorem piled.calls (w : World) (A : Option Addr) (c : Nat) (l : List S25) (hr : Kd.C k25 w A l.length l) (hc : l.length ≤ c) (hl : l.length < 1099511627776) :
    Calls Try.prog 29 #[.slice A l.length c] w (PiledPost w l) := by
  have HV := Aside0.mk (show Kd.V k25 25 w w.heap.size (fun k => k < w.heap.size) (.slice A l.length c) l from Kd.V_mk hc (Kd.C_F k25_heap hr))
  clear hr hc
  have hu76 := Try.underlying76
  go_enter Try.func29, Try.ntmps29
  go_wp2_with ((with_reducible refine gate_dst (N := 5) rfl ?_); refine Aside0.out (p := _) ?_)
  refine Aside0.mk ?_
  refine goesL_ (some 5) rfl rfl Try.func47 (by kernel_rfl) rfl #[.slice A l.length c] rfl (by (try simp only [List.map_toArray, List.map_cons, List.map_nil, List.append_toArray, List.cons_append, List.nil_append]); first | done | rfl) ?_
  refine (api_Letter_47.calls _ A c l l w HV.out (by unfold api_Letter_47.f; rw [Option.bind_some, if_pos (by simp; omega), List.nil_append])).mono ?_
  rintro e w1 ⟨v, rfl, hN, hb⟩
  refine ⟨_, rfl, ?_⟩
  obtain ⟨A1, c1, rfl⟩ := Kd.N_slice hN
  have HN := Aside0.mk hN
  have HB := Aside0.mk hb
  clear hN hb
  go_wp2_with ((with_reducible refine gate_dst (N := 7) rfl ?_); refine Aside0.out (p := _) ?_)
  refine Aside0.mk ?_

  have hP : Pile w (w1.alloc (.cells #[.slice A1 l.length c1] 76)) w1.heap.size (fun k => k < w1.heap.size ∧ some k ≠ (Value.slice A1 l.length c1).ownBlock) (.slice A1 l.length c1) l :=
    ⟨below_alloc HB.out _, HB.out.size, fun h => absurd h.1 (Nat.lt_irrefl _), fun k hk => ⟨fun h => h.2 hk.symm, by have := Kd.N_lt HN.out k hk; omega⟩, blk_new _ _, Kd.N_alloc (Kd.N_mono (Kd.N_bound HN.out) (fun k hk => by
      by_cases e : some k = (Value.slice A1 l.length c1).ownBlock
      · exact .inr e
      · exact .inl ⟨hk.2, e⟩)) _, fun k hk => by have := hk.1; simp; omega⟩
  have hSS : ∀ k, k < w.heap.size → k < w1.heap.size ∧ some k ≠ (Value.slice A1 l.length c1).ownBlock := fun k hk => ⟨Nat.lt_of_lt_of_le hk HB.out.size, fun e => by have := Kd.N_base HN.out k e.symm; omega⟩
  refine goesL_ (some 7) rfl rfl Try.func48 (by kernel_rfl) rfl #[.iface 60 (.pointer (some ⟨w1.heap.size, 0, none⟩))] rfl (by (try simp only [List.map_toArray, List.map_cons, List.map_nil, List.append_toArray, List.cons_append, List.nil_append]); first | done | rfl) ?_
  refine (init.calls hP hl).mono ?_
  rintro e w2 ⟨rfl, hp2, hk2⟩
  refine ⟨_, rfl, ?_⟩
  have HX := Aside0.mk (show PiledPost w l (.returned (.pointer (some ⟨w1.heap.size, 0, none⟩))) w2 from ⟨_, _, _, rfl, hp2, hp2.below, hSS⟩)
  clear hP hSS hp2 hk2 HN HB
  go_wp2
  go_ret
  exact HX.out
section
variable {w0 W : World} {Pb : Nat} {S : Nat → Prop} {v : Value} {l : List S25}
def TopPost (w0 W : World) (Pb : Nat) (S : Nat → Prop) (v : Value) (x : S25) (t : List S25) (e : Ending) (w' : World) : Prop := ∃ v3 v', e = .returned (.agg #[.int .i64 x.f0, .int .i64 x.f1, .int .i64 x.f2, v3]) ∧ Kd.R (Kd.int .u8) 5 w' W.heap.size (fun _ => True) v3 x.f3 ∧ v'.ownBlock = v.ownBlock ∧ Pile w0 w' Pb S v' t ∧ Kept W w' (fun k => k = Pb ∨ some k = v.ownBlock)
set_option maxHeartbeats 4000000 in
set_option maxRecDepth 100000 in
theorem top.calls (h : Pile w0 W Pb S v l) (m : Nat) (hm : l.length = m + 1) (hl : m < 1099511627776) (hx : (l.getD 0 z25).f3.length < 140737488355328) :
    Calls Try.prog 34 #[.pointer (some ⟨Pb, 0, none⟩)] W (TopPost w0 W Pb S v (l.getD 0 z25) (Hp.popped ltL z25 l)) := by
  have hu25 := Try.underlying25
  have hta : ∀ (c : Array Value) (W : World), (Instr.typeAssert (.iface 25 (.agg c)) 20 25 true).run Try.prog W = .ok (.tuple #[.agg c, .bool true]) W := fun _ _ => by kernel_rfl
  have HP := Aside0.mk h
  have HC : Aside0 (∀ W1, Below W.heap.size W W1 → Calls Try.prog 49 #[.iface 60 (.pointer (some ⟨Pb, 0, none⟩))] W1 (PopPost w0 W1 Pb S v (l.getD 0 z25) (Hp.popped ltL z25 l))) := ⟨fun W1 hb => hpop.calls (h.step hb) m hm hl⟩
  have HL := Aside0.mk hx
  clear h hm hx
  generalize l.getD 0 z25 = x at HC HL ⊢
  generalize Hp.popped ltL z25 l = t at HC ⊢
  go_enter Try.func34, Try.ntmps34
  go_wp2_with ((with_reducible refine gate_dst (N := 8) rfl ?_); refine Aside0.out (p := _) ?_)
  refine Aside0.mk ?_
  refine goesL_ (some 8) rfl rfl Try.func49 (by kernel_rfl) rfl #[.iface 60 (.pointer (some ⟨Pb, 0, none⟩))] rfl (by (try simp only [List.map_toArray, List.map_cons, List.map_nil, List.append_toArray, List.cons_append, List.nil_append]); first | done | rfl) ?_
  refine (HC.out _ (below_alloc (Below.refl _ _) _)).mono ?_
  rintro e w2 ⟨A3, c3, v', rfl, h1, h2, h3, h4, h5⟩
  refine ⟨_, rfl, ?_⟩
  have hPl := blk_lt HP.out.box
  have hr2 : w2.heap[W.heap.size]? = some (.cells #[.int .i64 0, .int .i64 0, .int .i64 0, .slice none 0 0] 25 (0, 0)) := blk_kept (blk_new W _) h5 (fun h => by
    rcases h with h | h
    · omega
    · have := Kd.N_lt HP.out.row _ h.symm; omega)
  have HQ := Aside0.mk (And.intro h1 (And.intro h2 (And.intro h3 (And.intro h4 (And.intro h5 hr2)))))
  clear h1 h2 h3 h4 h5 hr2 HC
  go_wp2_with ((with_reducible refine gate_dst (N := 14) rfl ?_); refine Aside0.out (p := _) ?_)
  refine Aside0.mk ?_
  refine goesL_ (some 14) rfl rfl Try.func40 (by kernel_rfl) rfl #[.slice A3 x.f3.length c3] rfl (by (try simp only [List.map_toArray, List.map_cons, List.map_nil, List.append_toArray, List.cons_append, List.nil_append]); first | done | rfl) ?_
  have hbn := below_alloc (Below.refl w2.heap.size w2) (.cells #[.int .i64 x.f0, .int .i64 x.f1, .int .i64 x.f2, .slice A3 x.f3.length c3] 25)
  refine (bytes_Clone.calls A3 c3 x.f3 x.f3 _ (Kd.C_below HQ.out.2.1 hbn) HQ.out.1 (by unfold bytes_Clone.f; rw [Option.bind_some, if_pos (by simpa using HL.out), List.nil_append])).mono ?_
  rintro e w4 ⟨v3, rfl, hv3, hb4⟩
  refine ⟨_, rfl, ?_⟩
  obtain ⟨A5, c5, rfl⟩ := Kd.R_slice hv3
  obtain ⟨_, _, e3, e4, e5, er⟩ := HQ.out
  have hlb : w4.heap[w2.heap.size]? = some (.cells #[.int .i64 x.f0, .int .i64 x.f1, .int .i64 x.f2, .slice A3 x.f3.length c3] 25 (0, 0)) := (hb4.block w2.heap.size (by simp)).trans (blk_new w2 _)
  have hrl := blk_lt er
  have hb24 : Below w2.heap.size w2 w4 := hbn.trans (hb4.mono hbn.size)
  have hr2 := (hb24.block _ hrl).trans er
  have hP4 := e4.step hb24
  have hw2 := e5.1
  have hw2' : W.heap.size + 1 ≤ w2.heap.size := by simpa using hw2
  have q3 : w4.cell? ⟨w2.heap.size, 3, none⟩ = some (.slice A3 x.f3.length c3) := blk_cell hlb 3
  have qf : w4.frozen? ⟨w2.heap.size, 3, none⟩ = false := blk_frozen hlb 3
  have HA := Aside0.mk (And.intro hlb (And.intro hr2 (And.intro hP4 (And.intro hv3 (And.intro hb4 (And.intro e3 e5))))))
  have HA2 := Aside0.mk (And.intro hPl (And.intro hw2' hb24))
  clear hlb hr2 hP4 hv3 hb4 e3 e4 e5 er hrl hb24 hPl hw2 hw2' hbn HQ
  go_wp2_with ((with_reducible refine gate_store (t := 23) (p := 15) rfl ?_); refine Aside0.out (p := _) ?_)
  refine Aside0.mk ?_
  refine store_event rfl rfl rfl (w1 := w4.setCell ⟨w2.heap.size, 3, none⟩ (.slice A5 x.f3.length c5)) ?_ ?_
  · go_simp
    try rfl
  intro w5 hw5
  obtain ⟨hlb, hr2, hP4, hv3, hb4, e3, e5⟩ := HA.out
  obtain ⟨hPl, hw2', hb24⟩ := HA2.out
  have hne : w2.heap.size ≠ W.heap.size := by omega
  have hr5 : w5.heap[W.heap.size]? = some (.cells #[.int .i64 0, .int .i64 0, .int .i64 0, .slice none 0 0] 25 (0, 0)) := by rw [hw5]; exact blk_far hr2 (fun e => hne e.symm) _
  have hl5 : w5.heap[w2.heap.size]? = some (.cells #[.int .i64 x.f0, .int .i64 x.f1, .int .i64 x.f2, .slice A5 x.f3.length c5] 25 (0, 0)) := by rw [hw5]; exact blk_set hlb 3 _
  have hlS : ¬ S w2.heap.size := fun hk => by have := HP.out.sle _ hk; omega
  have hlv : some w2.heap.size ≠ v'.ownBlock := fun e => by rw [e3] at e; have := Kd.N_lt HP.out.row _ e.symm; omega
  have hP5 : Pile w0 w5 Pb S v' t := by rw [hw5]; exact hP4.far (by show w0.heap.size ≤ w2.heap.size; have := HP.out.below.size; omega) (by show w2.heap.size ≠ Pb; omega) hlS hlv _
  have hn3 : w2.heap.size + 1 ≤ (w2.alloc (.cells #[.int .i64 x.f0, .int .i64 x.f1, .int .i64 x.f2, .slice A3 x.f3.length c3] 25)).heap.size := by simp
  have hv5 : Kd.R (Kd.int .u8) 5 w5 (w2.alloc (.cells #[.int .i64 x.f0, .int .i64 x.f1, .int .i64 x.f2, .slice A3 x.f3.length c3] 25)).heap.size (fun k => w2.heap.size + 1 ≤ k) (.slice A5 x.f3.length c5) x.f3 := by
    rw [hw5]
    exact Kd.R_far (p := ⟨w2.heap.size, 3, none⟩) (Kd.R_mono (Kd.R_bound hv3) (fun k hk => Nat.le_trans hn3 hk.2.1)) (fun k hk => by show k ≠ w2.heap.size; omega) _
  have l0 : w5.cell? ⟨w2.heap.size, 0, none⟩ = some (.int .i64 x.f0) := blk_cell hl5 0
  have l1 : w5.cell? ⟨w2.heap.size, 1, none⟩ = some (.int .i64 x.f1) := blk_cell hl5 1
  have l2 : w5.cell? ⟨w2.heap.size, 2, none⟩ = some (.int .i64 x.f2) := blk_cell hl5 2
  have l3 : w5.cell? ⟨w2.heap.size, 3, none⟩ = some (.slice A5 x.f3.length c5) := blk_cell hl5 3
  have hk5 : Kept W w5 (fun k => k = Pb ∨ some k = v.ownBlock) := by
    rw [hw5]
    exact ((((Kept.refl W _).alloc _).then_ e5 (fun _ h => .inl h)).below hb24).setCell (.inr (by show W.heap.size ≤ w2.heap.size; omega)) _
  have i25 : (Try.prog.info? 25).map (·.size) = some 4 := by kernel_rfl
  have hst := run_store_run (P := Try.prog) (w := w5) (o := 0) 25 (.agg #[.int .i64 x.f0, .int .i64 x.f1, .int .i64 x.f2, .slice A5 x.f3.length c5]) [.int .i64 x.f0, .int .i64 x.f1, .int .i64 x.f2, .slice A5 x.f3.length c5] hr5 rfl i25 (by simp) (by
    intro q hq
    simp only [List.mem_cons, List.not_mem_nil, or_false] at hq
    rcases hq with rfl | rfl | rfl | rfl <;> rfl)
  have HB5 := Aside0.mk (And.intro hr5 (And.intro hP5 (And.intro hv5 (And.intro hk5 (And.intro e3 (And.intro hPl hw2'))))))
  have HS5 := Aside0.mk hst
  clear hr5 hP5 hv5 hk5 e3 hst hlb hr2 hP4 hv3 hb4 e5 hb24 hne hl5 hlS hlv hn3 hPl hw2' hw5 HA HA2 i25 q3 qf
  go_wp2_with ((with_reducible refine gate_store (t := 25) (p := 2) rfl ?_); refine Aside0.out (p := _) ?_)
  refine Aside0.mk ?_
  refine store_event rfl rfl rfl (w1 := w5.setCells W.heap.size 0 [.int .i64 x.f0, .int .i64 x.f1, .int .i64 x.f2, .slice A5 x.f3.length c5]) (run_store HS5.out rfl rfl rfl) ?_
  intro w6 hw6
  obtain ⟨hr5, hP5, hv5, hk5, e3, hPl, hw2'⟩ := HB5.out
  have s6 : w6 = (((w5.setCell ⟨W.heap.size, 0, none⟩ (.int .i64 x.f0)).setCell ⟨W.heap.size, 1, none⟩ (.int .i64 x.f1)).setCell ⟨W.heap.size, 2, none⟩ (.int .i64 x.f2)).setCell ⟨W.heap.size, 3, none⟩ (.slice A5 x.f3.length c5) := hw6
  have hr6 : w6.heap[W.heap.size]? = some (.cells #[.int .i64 x.f0, .int .i64 x.f1, .int .i64 x.f2, .slice A5 x.f3.length c5] 25 (0, 0)) := by
    rw [s6]; exact blk_set (blk_set (blk_set (blk_set hr5 0 _) 1 _) 2 _) 3 _
  have nS : ¬ S W.heap.size := fun hk => by have := HP.out.sle _ hk; omega
  have nv : some W.heap.size ≠ v'.ownBlock := fun e => by rw [e3] at e; have := Kd.N_lt HP.out.row _ e.symm; omega
  have nP : W.heap.size ≠ Pb := by omega
  have hW := HP.out.below.size
  have hP6 : Pile w0 w6 Pb S v' t := by rw [s6]; exact (((hP5.far hW nP nS nv _).far hW nP nS nv _).far hW nP nS nv _).far hW nP nS nv _
  have fR : ∀ (w : World) (j : Nat) (u : Value), Kd.R (Kd.int .u8) 5 w (w2.alloc (.cells #[.int .i64 x.f0, .int .i64 x.f1, .int .i64 x.f2, .slice A3 x.f3.length c3] 25)).heap.size (fun k => w2.heap.size + 1 ≤ k) (.slice A5 x.f3.length c5) x.f3 → Kd.R (Kd.int .u8) 5 (w.setCell ⟨W.heap.size, j, none⟩ u) (w2.alloc (.cells #[.int .i64 x.f0, .int .i64 x.f1, .int .i64 x.f2, .slice A3 x.f3.length c3] 25)).heap.size (fun k => w2.heap.size + 1 ≤ k) (.slice A5 x.f3.length c5) x.f3 := fun w j u h => Kd.R_far (p := ⟨W.heap.size, j, none⟩) h (fun k hk => by show k ≠ W.heap.size; omega) u
  have hv6 : Kd.R (Kd.int .u8) 5 w6 W.heap.size (fun _ => True) (.slice A5 x.f3.length c5) x.f3 := by
    rw [s6]
    exact Kd.R_lower (Kd.R_mono (fR _ 3 _ (fR _ 2 _ (fR _ 1 _ (fR _ 0 _ hv5)))) (fun _ _ => trivial)) (by simp; omega)
  have hk6 : Kept W w6 (fun k => k = Pb ∨ some k = v.ownBlock) := by
    rw [s6]
    exact (((hk5.setCell (.inr (Nat.le_refl _)) _).setCell (.inr (Nat.le_refl _)) _).setCell (.inr (Nat.le_refl _)) _).setCell (.inr (Nat.le_refl _)) _
  have HX := Aside0.mk (show TopPost w0 W Pb S v x t (.returned (.agg #[.int .i64 x.f0, .int .i64 x.f1, .int .i64 x.f2, .slice A5 x.f3.length c5])) w6 from ⟨_, v', rfl, hv6, e3, hP6, hk6⟩)
  have r0 : w6.cell? ⟨W.heap.size, 0, none⟩ = some (.int .i64 x.f0) := blk_cell hr6 0
  have r1 : w6.cell? ⟨W.heap.size, 1, none⟩ = some (.int .i64 x.f1) := blk_cell hr6 1
  have r2 : w6.cell? ⟨W.heap.size, 2, none⟩ = some (.int .i64 x.f2) := blk_cell hr6 2
  have r3 : w6.cell? ⟨W.heap.size, 3, none⟩ = some (.slice A5 x.f3.length c5) := blk_cell hr6 3
  clear hr5 hP5 hv5 hk5 e3 hPl hw2' s6 hw6 hr6 nS nv nP hW hP6 fR hv6 hk6 HB5 HS5 l0 l1 l2 l3
  go_wp2
  exact bodyPost_ret (v := .agg #[.int .i64 x.f0, .int .i64 x.f1, .int .i64 x.f2, .slice A5 x.f3.length c5]) (by simp [results, Try.results34, go_sem, r0, r1, r2, r3]) rfl HX.out
end
end Go.Proofs.Ytghkngdcmlhmeaa.Qp

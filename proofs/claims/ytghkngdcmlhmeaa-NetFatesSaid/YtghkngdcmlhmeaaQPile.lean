/- The pile of letters: a box that holds a row of letters of the call's own; the methods that container/heap comes to through an interface. -/
import Derived.Test.YtghkngdcmlhmeaaQSwap
set_option linter.unusedVariables false
set_option linter.unusedSimpArgs false
set_option linter.unusedSectionVars false
namespace Go.Proofs.Ytghkngdcmlhmeaa.Qp
open Go.RowKit Go.Proofs Go.Proofs.Ytghkngdcmlhmeaa.PQu Go.Proofs.YtghkngdcmlhmeaaW.PrintWords Go.Proofs.YtghkngdcmlhmeaaW.PrintLast Go.Proofs.YtghkngdcmlhmeaaW.PrintMore
/-- Is a letter ahead of another one? -/
def ltL (x y : S25) : Bool := decide (Qo.ord x.f0 x.f1 x.f2 x.f3 y.f0 y.f1 y.f2 y.f3 < 0)
/-- A pile: block Pb holds the row v of the letters l, whose bytes lie in S. -/
structure Pile (w0 W : World) (Pb : Nat) (S : Nat → Prop) (v : Value) (l : List S25) : Prop where
  below : Below w0.heap.size w0 W
  old : w0.heap.size ≤ Pb
  nS : ¬ S Pb
  apart : ∀ k, v.ownBlock = some k → ¬ S k ∧ k ≠ Pb
  box : W.heap[Pb]? = some (.cells #[v] 76 (0, 0))
  row : Kd.N k25 25 W w0.heap.size (fun k => S k ∨ some k = v.ownBlock) v l
  sle : ∀ k, S k → k < W.heap.size
theorem Pile.step {w0 W W' : World} {Pb : Nat} {S : Nat → Prop} {v : Value} {l : List S25} (h : Pile w0 W Pb S v l) (hb : Below W.heap.size W W') : Pile w0 W' Pb S v l :=
  ⟨h.below.trans (hb.mono h.below.size), h.old, h.nS, h.apart, (hb.block _ (blk_lt h.box)).trans h.box, Kd.N_below h.row hb, fun k hk => Nat.lt_of_lt_of_le (h.sle k hk) hb.size⟩
theorem Pile.far {w0 W : World} {Pb : Nat} {S : Nat → Prop} {v : Value} {l : List S25} (h : Pile w0 W Pb S v l) {p : Addr} (h0 : w0.heap.size ≤ p.block) (h1 : p.block ≠ Pb) (h2 : ¬ S p.block) (h3 : some p.block ≠ v.ownBlock) (u : Value) : Pile w0 (W.setCell p u) Pb S v l :=
  ⟨h.below.setCell h0 u, h.old, h.nS, h.apart, (Below.heap_setCell W p u Pb (fun e => h1 e.symm)).trans h.box, Kd.N_far h.row (fun k hk e => by
    subst e
    rcases hk with hk | hk
    · exact h2 hk
    · exact h3 hk) u, fun k hk => by have := h.sle k hk; simpa [World.setCell] using this⟩
theorem swap.calls {base : Nat} {ok : Nat → Prop} {g cap : Nat} {l : List S25} {W : World} (hN : Kd.N k25 25 W base ok (.slice (some ⟨g, 0, none⟩) l.length cap) l) (i k : Nat) (hi : i < l.length) (hk : k < l.length) :
    Calls Try.prog 78 #[.slice (some ⟨g, 0, none⟩) l.length cap, .int .i64 (i : Int), .int .i64 (k : Int)] W fun e w' => e = .returned (.tuple #[]) ∧ W.grownBy w' (some g) ∧ Kd.N k25 25 w' base ok (.slice (some ⟨g, 0, none⟩) l.length cap) (Hp.sw z25 l i k) := by
  obtain ⟨c1, hc1, hK1, hcc1, hf1⟩ := Kd.N_elem hN z25 (i : Int) (by omega) (by omega)
  obtain ⟨c2, hc2, hK2, hcc2, hf2⟩ := Kd.N_elem hN z25 (k : Int) (by omega) (by omega)
  simp only [Int.toNat_natCast] at hK1 hK2 hcc1 hcc2
  obtain ⟨Ai, ci, rfl, hli, hFi⟩ := k25_openF hK1
  obtain ⟨Ak, ck, rfl, hlk, hFk⟩ := k25_openF hK2
  have hd : Kd.N k25 25 W.drew base ok (.slice (some ⟨g, 0, none⟩) l.length cap) l := Kd.N_drew hN
  have hK2d := Kd.FK_below hK2 (below_drew (Below.refl W.heap.size W))
  have hK1d := Kd.FK_below hK1 (below_drew (Below.refl W.heap.size W))
  have i25 : (Try.prog.info? 25).map (·.size) = some 4 := by kernel_rfl
  have one : ∀ (x : S25) (A : Option Addr) (c : Nat), ∀ q ∈ [Value.int .i64 x.f0, .int .i64 x.f1, .int .i64 x.f2, .slice A x.f3.length c], q.oneCell' = true := by
    intro x A c q hq
    simp only [List.mem_cons, List.not_mem_nil, or_false] at hq
    rcases hq with rfl | rfl | rfl | rfl <;> rfl
  have r1 := N_run (P := Try.prog) hd i hi (t := 25) (u := .agg #[.int .i64 (l.getD k z25).f0, .int .i64 (l.getD k z25).f1, .int .i64 (l.getD k z25).f2, .slice Ak (l.getD k z25).f3.length ck]) rfl i25 rfl (one _ _ _)
  obtain ⟨n1, g1⟩ := N_put hd i hi z25 (seg := [.int .i64 (l.getD k z25).f0, .int .i64 (l.getD k z25).f1, .int .i64 (l.getD k z25).f2, .slice Ak (l.getD k z25).f3.length ck]) rfl hK2d (fun _ h => h)
  have hK1e := Kd.FK_grown hK1d g1 (fun k hk he => hk.2 (by injection he))
  have hk' : k < (l.set i (l.getD k z25)).length := by rw [List.length_set]; exact hk
  have n1' : Kd.N k25 25 _ base ok (.slice (some ⟨g, 0, none⟩) l.length cap) (l.set i (l.getD k z25)) := n1
  have r2 := N_run (P := Try.prog) n1' k hk (t := 25) (u := .agg #[.int .i64 (l.getD i z25).f0, .int .i64 (l.getD i z25).f1, .int .i64 (l.getD i z25).f2, .slice Ai (l.getD i z25).f3.length ci]) rfl i25 rfl (one _ _ _)
  obtain ⟨n2, g2⟩ := N_put n1' k hk z25 (seg := [.int .i64 (l.getD i z25).f0, .int .i64 (l.getD i z25).f1, .int .i64 (l.getD i z25).f2, .slice Ai (l.getD i z25).f3.length ci]) rfl hK1e (fun _ h => h)
  refine (sw_reg W g i k cap l _ _ hi hk Ai Ak ci ck hcc1 hcc2 r1 r2).mono ?_
  rintro e w' ⟨rfl, rfl⟩
  refine ⟨rfl, ?_, n2⟩
  have g0 : W.grownBy W.drew (some g) := ⟨rfl, rfl, rfl, Nat.le_refl _, fun _ _ _ => rfl⟩
  exact ⟨(g2.os.trans g1.os), g2.tape.trans g1.tape, g2.output.trans g1.output, Nat.le_trans g1.size g2.size, fun q hq hne => (g2.block q (Nat.lt_of_lt_of_le hq g1.size) hne).trans (g1.block q hq hne)⟩
section
variable {w0 W : World} {Pb : Nat} {S : Nat → Prop} {v : Value} {l : List S25}
theorem Pile.len (h : Pile w0 W Pb S v l) : ∃ A c, v = .slice A l.length c ∧ l.length ≤ c ∧ Kd.C k25 W A l.length l := Kd.N_reads h.row
theorem less.calls (h : Pile w0 W Pb S v l) (i k : Nat) (hi : i < l.length) (hk : k < l.length) :
    Calls Try.prog 75 #[v, .int .i64 (i : Int), .int .i64 (k : Int)] W fun e w' => e = .returned (.bool (ltL (l.getD i z25) (l.getD k z25))) ∧ Pile w0 w' Pb S v l ∧ Below W.heap.size W w' := by
  obtain ⟨A, c, rfl, hc, hC⟩ := h.len
  refine (queue_pile_Less.calls 6 A c l (i : Int) (k : Int) (ltL (l.getD i z25) (l.getD k z25)) W hC hc ?_).mono ?_
  · unfold queue_pile_Less.f
    rw [if_pos (by omega), if_pos (by omega), if_pos (by omega), if_pos (by omega), Qo.order_spec _ _ _ _ _ _ _ _ 6 (Nat.le_refl _)]
    simp only [Option.bind_some, ltL, rd_T25, Int.toNat_natCast]
  · rintro e w' ⟨rfl, hb⟩
    exact ⟨rfl, h.step hb, hb⟩
theorem len.calls (h : Pile w0 W Pb S v l) : Calls Try.prog 33 #[v] W fun e w' => e = .returned (.int .i64 (l.length : Int)) ∧ Pile w0 w' Pb S v l ∧ Below W.heap.size W w' := by
  obtain ⟨A, c, rfl, hc, hC⟩ := h.len
  refine (queue_pile_Len.calls A c l (l.length : Int) W hC hc rfl).mono ?_
  rintro e w' ⟨rfl, hb⟩
  exact ⟨rfl, h.step hb.below, hb.below⟩
theorem swap2.calls (h : Pile w0 W Pb S v l) (i k : Nat) (hi : i < l.length) (hk : k < l.length) :
    Calls Try.prog 78 #[v, .int .i64 (i : Int), .int .i64 (k : Int)] W fun e w' => e = .returned (.tuple #[]) ∧ Pile w0 w' Pb S v (Hp.sw z25 l i k) ∧ Kept W w' (fun k => some k = v.ownBlock) := by
  obtain ⟨g, cap, rfl, hg, hlt, _⟩ := Kd.N_form h.row (by omega)
  refine (swap.calls h.row i k hi hk).mono ?_
  rintro e w' ⟨rfl, hg', hN⟩
  have hne : some Pb ≠ some g := fun e => (h.apart g (by simp [Value.ownBlock])).2 (by injection e with e; exact e.symm)
  refine ⟨rfl, ⟨?_, h.old, h.nS, h.apart, (hg'.block _ (blk_lt h.box) hne).trans h.box, ?_, fun k hk => Nat.lt_of_lt_of_le (h.sle k hk) hg'.size⟩, hg'.size, fun i hi hn => hg'.block i hi (fun e => hn (by show some i = _; rw [e]; simp [Value.ownBlock]))⟩
  · exact h.below.grown hg' h.below.size (fun k e => by injection e with e; omega)
  · have := hN
    rw [← Hp.sw_length z25 l i k] at this
    rw [Hp.sw_length] at this
    exact this
theorem nilchk {ts : Array TypeId} {t : TypeId} {a : Addr} {s m : String} : Builtin.ssaWrapNilChk_ ts t #[.pointer (some a), strVal s, strVal m] = pure (.pointer (some a)) := rfl
theorem meth_of (nm : String) (f : FuncId) (hm : (Array.find? (fun x => x.name == nm) Try.t60.methods).map (fun m => (m.path, m.func)) = some (#[], some (f, false))) (n : Nat) (hb : W.heap[Pb]? = some (.cells #[v] 76 (0, 0))) : (method (n + 1) 60 (.pointer (some ⟨Pb, 0, none⟩)) nm).run Try.prog W = .ok (f, v) W := by
  have hc : W.cell? ⟨Pb, 0, none⟩ = some v := blk_cell hb 0
  obtain ⟨m, h1, h2⟩ := Option.map_eq_some_iff.mp hm
  have h3 : m.path = #[] := (Prod.mk.inj h2).1
  have h4 : m.func = some (f, false) := (Prod.mk.inj h2).2
  unfold method
  simp [go_sem, h1, h3, h4, follow, receiverAt, Place.get, nilchk, hc]
theorem methP_of (nm : String) (f : FuncId) (hm : (Array.find? (fun x => x.name == nm) Try.t60.methods).map (fun m => (m.path, m.func)) = some (#[], some (f, true))) (n : Nat) (p : Value) : (method (n + 1) 60 p nm).run Try.prog W = .ok (f, p) W := by
  obtain ⟨m, h1, h2⟩ := Option.map_eq_some_iff.mp hm
  have h3 : m.path = #[] := (Prod.mk.inj h2).1
  have h4 : m.func = some (f, true) := (Prod.mk.inj h2).2
  unfold method
  simp [go_sem, h1, h3, h4, follow, receiverAt, Place.get]
theorem m_less (n : Nat) (h : Pile w0 W Pb S v l) : (method (n + 1) 60 (.pointer (some ⟨Pb, 0, none⟩)) "Less").run Try.prog W = .ok (75, v) W := meth_of "Less" _ (by kernel_rfl) n h.box
theorem m_len (n : Nat) (h : Pile w0 W Pb S v l) : (method (n + 1) 60 (.pointer (some ⟨Pb, 0, none⟩)) "Len").run Try.prog W = .ok (33, v) W := meth_of "Len" _ (by kernel_rfl) n h.box
theorem m_swap (n : Nat) (h : Pile w0 W Pb S v l) : (method (n + 1) 60 (.pointer (some ⟨Pb, 0, none⟩)) "Swap").run Try.prog W = .ok (78, v) W := meth_of "Swap" _ (by kernel_rfl) n h.box
theorem m_push (n : Nat) (p : Value) : (method (n + 1) 60 p "Push").run Try.prog W = .ok (77, p) W := methP_of "Push" _ (by kernel_rfl) n p
theorem m_pop (n : Nat) (p : Value) : (method (n + 1) 60 p "Pop").run Try.prog W = .ok (76, p) W := methP_of "Pop" _ (by kernel_rfl) n p
/-- A call through the interface. -/
theorem goesI_ {ops : Array Oper} {rest : List Oper} {a : Act} {Q : Exit → Act → World → Prop} {oi : Oper} {W : World} (N : Option Tmp) (hd : oi.dst = N) (hw : Region.wanted oi (yielded ops a.tmps) = true) {f : FuncId} {fn : Func} {x : Operand} {nm : String} {os : Array Operand} {ts : Array TypeId}
    (hop : oi.op = .call { callee := .invoke x nm, args := os, argTypes := ts }) {p r : Value} (hx : a.eval x = .iface 60 p) (hm : ∀ n, (method (n + 1) 60 p nm).run Try.prog W = .ok (f, r) W) (hf : Try.prog.funcs[f]? = some fn) (hname : (fn.name == "runtime.NumGoroutine") = false) (hb : fn.body.isSome = true) (args : Array Value) (hargs : #[r] ++ os.map a.eval = args)
    (h : Calls Try.prog f args W fun e w' => ∃ v, e = .returned v ∧ wpList Try.prog ops Q rest (a.put N v) w') : wpList Try.prog ops Q (oi :: rest) a W := by
  have he := enters_ hf hname hb args W
  have hpos : 0 < Made.depth := by decide
  have hmm : ∀ k, (method (k + Made.depth) 60 p nm).run Try.prog W = .ok (f, r) W := fun k => by
    have := hm (k + Made.depth - 1)
    rwa [show k + Made.depth - 1 + 1 = k + Made.depth by omega] at this
  have hrun : (execOp a.eval oi).run Try.prog W = .ok (.enter f args) W := by
    have e0 : (#[Value.iface 60 p] ++ os.map a.eval)[0]? = some (.iface 60 p) := by simp [Array.getElem?_append]
    have e1 : (os.map a.eval).extract 0 os.size = os.map a.eval := by
      have h := Array.extract_size (xs := os.map a.eval)
      rwa [Array.size_map] at h
    unfold execOp
    simp [hop, resolve, invoke, hx, callMethod, hmm, hargs, he, Sem.run_bind, Result.andThen, e0, e1]
  unfold wpList
  rw [if_pos hw]
  refine .inl ?_
  unfold Oper.wp
  rw [hrun, Oper.upon_enter]
  refine h.mono fun e w'' hh => ?_
  obtain ⟨v, rfl, hk⟩ := hh
  subst hd
  exact hk
end
end Go.Proofs.Ytghkngdcmlhmeaa.Qp

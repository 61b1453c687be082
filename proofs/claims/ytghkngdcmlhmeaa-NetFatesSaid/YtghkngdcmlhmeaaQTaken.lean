/- The pile: letters taken as long as they are such. -/
import Derived.Test.YtghkngdcmlhmeaaQTake
set_option linter.unusedVariables false
set_option linter.unusedSimpArgs false
set_option linter.unusedSectionVars false
namespace Go.Proofs.Ytghkngdcmlhmeaa.Qp
open Go.RowKit Go.Proofs Go.Proofs.Ytghkngdcmlhmeaa.PQu Go.Proofs.YtghkngdcmlhmeaaW.PrintWords Go.Proofs.YtghkngdcmlhmeaaW.PrintLast Go.Proofs.YtghkngdcmlhmeaaW.PrintMore
section
variable {w0 W : World} {Pb : Nat} {S : Nat → Prop} {v : Value} {l : List S25}
theorem Pile.grown (h : Pile w0 W Pb S v l) {W' : World} {row : Option Nat} (hg : W.grownBy W' row) (B : Nat) (hrow : ∀ k, row = some k → B ≤ k) (h0 : w0.heap.size ≤ B) (h1 : Pb < B) (h2 : ∀ k, S k → k < B) (h3 : ∀ k, v.ownBlock = some k → k < B) : Pile w0 W' Pb S v l := by
  have hne : ∀ k, k < B → some k ≠ row := fun k hk e => by have := hrow k e.symm; omega
  refine ⟨h.below.grown hg h.below.size (fun k e => Nat.le_trans h0 (hrow k e)), h.old, h.nS, h.apart, (hg.block _ (blk_lt h.box) (hne _ h1)).trans h.box, Kd.N_grown h.row hg (fun k hk => hne k ?_), fun k hk => Nat.lt_of_lt_of_le (h.sle k hk) hg.size⟩
  rcases hk with hk | hk
  · exact h2 k hk
  · exact h3 k hk.symm
def TkAt (w0 W : World) (Pb : Nat) (S : Nat → Prop) (v : Value) (p : S25 → Bool) (t1 t2 : List S25) (kq : Nat) (vo : Value) (lc : List S25) (w' : World) : Prop := ∃ v' outs, Pile w0 w' Pb S v' lc ∧ v'.ownBlock = v.ownBlock ∧ Kept W w' (fun k => k = Pb ∨ some k = v.ownBlock) ∧ Kd.R k25 25 w' W.heap.size (fun _ => True) vo outs ∧ outs ++ (Hp.tk ltL z25 p kq lc).1 = t1 ∧ (Hp.tk ltL z25 p kq lc).2 = t2 ∧ lc.length ≤ kq ∧ outs.length + lc.length < 1099511627776 ∧ ∀ x ∈ lc, x.f3.length < 140737488355328
def TkPost (w0 W : World) (Pb : Nat) (S : Nat → Prop) (v : Value) (t1 t2 : List S25) (e : Ending) (w' : World) : Prop := ∃ vo v', e = .returned vo ∧ Kd.R k25 25 w' W.heap.size (fun _ => True) vo t1 ∧ Pile w0 w' Pb S v' t2 ∧ v'.ownBlock = v.ownBlock ∧ Kept W w' (fun k => k = Pb ∨ some k = v.ownBlock)
set_option maxHeartbeats 8000000 in
set_option maxRecDepth 100000 in
theorem taken.calls (h : Pile w0 W Pb S v l) (p : S25 → Bool) (f : FuncId) (fn : Func) (cs : Array Value) (hf : Try.prog.funcs[f]? = some fn) (hname : (fn.name == "runtime.NumGoroutine") = false) (hbody : fn.body.isSome = true)
    (hc : ∀ W', Kept W W' (fun k => k = Pb ∨ some k = v.ownBlock) → ∀ (x : S25) (A3 : Option Addr) (c3 : Nat), x.f3.length ≤ c3 → Kd.C (Kd.int .u8) W' A3 x.f3.length x.f3 → Calls Try.prog f (#[.agg #[.int .i64 x.f0, .int .i64 x.f1, .int .i64 x.f2, .slice A3 x.f3.length c3]] ++ cs) W' fun e w' => e = .returned (.bool (p x)) ∧ Below W'.heap.size W' w')
    (n : Nat) (hn : l.length ≤ n) (hl : l.length < 1099511627776) (hb : ∀ x ∈ l, x.f3.length < 140737488355328) :
    Calls Try.prog 30 #[.pointer (some ⟨Pb, 0, none⟩), .func (.func f) #[] cs] W (TkPost w0 W Pb S v (Hp.tk ltL z25 p n l).1 (Hp.tk ltL z25 p n l).2) := by
  have hu25 := Try.underlying25
  have hu76 := Try.underlying76
  have hu22' : Try.prog.underlying 22 = some (.slice 25) := by kernel_rfl
  have HP := Aside0.mk h
  have HC := Aside0.mk hc
  have HF := Aside0.mk (And.intro hf (And.intro hname hbody))
  have HT : Aside0 (TkAt w0 W Pb S v p (Hp.tk ltL z25 p n l).1 (Hp.tk ltL z25 p n l).2 n (.slice none 0 0) l W) := ⟨v, [], h, rfl, Kept.refl _ _, Kd.R_nil _ _ _ _ _, rfl, rfl, hn, by simpa using hl, hb⟩
  generalize (Hp.tk ltL z25 p n l).1 = t1 at HT ⊢
  generalize (Hp.tk ltL z25 p n l).2 = t2 at HT ⊢
  clear h hc hf hname hbody hn hl hb
  go_enter Try.func30, Try.ntmps30
  go_wp2
  go_loopg [5] n (fun kq v5 w' => ∃ (lc : List S25), Aside0 (TkAt w0 W Pb S v p t1 t2 kq v5 lc w'))
  case atStart => exact ⟨l, HT⟩
  case round =>
    clear HT
    obtain ⟨lc, HT⟩ := hrel
    obtain ⟨v', outs, hP, e3, hK, hR, h1, h2, h4, h5, h6⟩ := HT.out
    obtain ⟨A0, c0, rfl, hc0, _⟩ := hP.len
    have hp0 : wr.cell? ⟨Pb, 0, none⟩ = some (.slice A0 lc.length c0) := blk_cell hP.box 0
    have HA := Aside0.mk (And.intro hP (And.intro e3 (And.intro hK (And.intro hR (And.intro h1 (And.intro h2 (And.intro h4 (And.intro h5 h6))))))))
    clear hP e3 hK hR h1 h2 h4 h5 h6 hc0 HT
    obtain ⟨Ao, no, co, rfl⟩ : ∃ Ao no co, u5 = .slice Ao no co := by
      obtain ⟨A, c, e⟩ := Kd.R_slice HA.out.2.2.2.1
      exact ⟨_, _, _, e⟩
    go_wp2_with ((with_reducible refine gate_dst (N := 9) rfl ?_); refine Aside0.out (p := _) ?_)
    refine Aside0.mk ?_
    refine goesL_ (some 9) rfl rfl Try.func33 (by kernel_rfl) rfl #[.slice A0 lc.length c0] rfl (by (try simp only [List.map_toArray, List.map_cons, List.map_nil, List.append_toArray, List.cons_append, List.nil_append]); first | done | rfl) ?_
    refine (len.calls HA.out.1).mono ?_
    rintro e w2 ⟨rfl, hp2, hb2⟩
    refine ⟨_, rfl, ?_⟩
    obtain ⟨hP, e3, hK, hR, h1, h2, h4, h5, h6⟩ := HA.out
    have hR2 := Kd.R_below hR hb2
    have hK2 := hK.below hb2
    have hp2' : w2.cell? ⟨Pb, 0, none⟩ = some (.slice A0 lc.length c0) := blk_cell hp2.box 0
    have HB := Aside0.mk (And.intro hp2 (And.intro e3 (And.intro hK2 (And.intro hR2 (And.intro h1 (And.intro h2 (And.intro h4 (And.intro h5 h6))))))))
    clear hP e3 hK hR h1 h2 h4 h5 h6 hp2 hb2 hR2 hK2 HA hp0
    by_cases c1 : lc.length = 0
    · have HX := Aside0.mk (show TkPost w0 W Pb S v t1 t2 (.returned (.slice Ao no co)) w2 from by
        obtain ⟨hP, e3, hK, hR, h1, h2, h4, h5, h6⟩ := HB.out
        obtain rfl : lc = [] := List.eq_nil_of_length_eq_zero c1
        have ht : Hp.tk ltL z25 p gk ([] : List S25) = ([], []) := by
          cases gk with
          | zero => rfl
          | succ k => rw [Hp.tk, if_neg (fun h => by simp at h)]
        rw [ht] at h1 h2
        simp only [List.append_nil] at h1
        exact ⟨_, _, rfl, h1 ▸ hR, h2 ▸ hP, e3, hK⟩)
      clear HB
      rw [c1]
      clear c1 hp2'
      go_wp2
      go_ret
      exact HX.out
    · have c2 : 0 < lc.length := by omega
      obtain ⟨g, cap, hv, hg, hgl, _⟩ := Kd.N_form HB.out.1.row c2
      injection hv with hA hn hcap
      subst hA
      subst hcap
      obtain ⟨c, hcl, hK1, hcc, hff⟩ := Kd.N_elem HB.out.1.row z25 0 (by omega) (by omega)
      simp only [Int.toNat_zero, Nat.zero_mul, Nat.zero_add] at hK1 hcc
      obtain ⟨A3, c3, rfl, hl3, hF3⟩ := k25_openF hK1
      have q0 : w2.cell? ⟨g, 0, none⟩ = some (.int .i64 (lc.getD 0 z25).f0) := hcc 0 _ rfl
      have q1 : w2.cell? ⟨g, 1, none⟩ = some (.int .i64 (lc.getD 0 z25).f1) := hcc 1 _ rfl
      have q2 : w2.cell? ⟨g, 2, none⟩ = some (.int .i64 (lc.getD 0 z25).f2) := hcc 2 _ rfl
      have q3 : w2.cell? ⟨g, 3, none⟩ = some (.slice A3 (lc.getD 0 z25).f3.length c3) := hcc 3 _ rfl
      have H3 := Aside0.mk (And.intro hl3 (Kd.F_now hF3))
      have hmem : lc.getD 0 z25 ∈ lc := by
        rw [Hp.getD_lt _ _ _ c2]; exact List.getElem_mem c2
      have H4 := Aside0.mk (And.intro hmem c1)
      have b1 : decide (0 < lc.length) = true := decide_eq_true c2
      clear hcl hK1 hcc hff hl3 hF3 hg hgl hn hmem c1
      have HG : Aside0 (∃ x, x = lc.getD 0 z25) := ⟨_, rfl⟩
      obtain ⟨x, hxe⟩ := HG.out
      rw [← hxe] at q0 q1 q2 q3 H3 H4
      have HXE := Aside0.mk hxe
      clear hxe HG
      go_wp2_with ((with_reducible refine gate_dst (N := 18) rfl ?_); refine Aside0.out (p := _) ?_)
      refine Aside0.mk ?_
      refine goesW_ (some 18) rfl (by rfl) HF.out.1 HF.out.2.1 HF.out.2.2 (#[.agg #[.int .i64 x.f0, .int .i64 x.f1, .int .i64 x.f2, .slice A3 x.f3.length c3]] ++ cs) rfl rfl (by (try simp only [List.map_toArray, List.map_cons, List.map_nil, List.append_toArray, List.cons_append, List.nil_append]); first | done | rfl) ?_
      refine (HC.out w2 HB.out.2.2.1 x A3 c3 H3.out.1 H3.out.2).mono ?_
      rintro e w3 ⟨rfl, hb3⟩
      refine ⟨_, rfl, ?_⟩
      obtain ⟨hP, e3, hK, hR, h1, h2, h4, h5, h6⟩ := HB.out
      have hR3 := Kd.R_below hR hb3
      have hK3 := hK.below hb3
      have hP3 := hP.step hb3
      have HD := Aside0.mk (And.intro hP3 (And.intro e3 (And.intro hK3 (And.intro hR3 (And.intro h1 (And.intro h2 (And.intro h4 (And.intro h5 h6))))))))
      clear hP e3 hK hR h1 h2 h4 h5 h6 hb3 hR3 hK3 hP3 HB hp2' q0 q1 q2 q3 H3
      cases gk with
      | zero => exact absurd HD.out.2.2.2.2.2.2.1 (by omega)
      | succ k1 =>
      by_cases c5 : p x = true
      · have HY := Aside0.mk c5
        rw [c5]
        clear c5
        go_wp2_with ((with_reducible refine gate_dst (N := 22) rfl ?_); refine Aside0.out (p := _) ?_)
        refine Aside0.mk ?_
        obtain ⟨m, hm⟩ : ∃ m, lc.length = m + 1 := ⟨lc.length - 1, by omega⟩
        have hxe := HXE.out
        refine goesL_ (some 22) rfl rfl Try.func34 (by kernel_rfl) rfl #[.pointer (some ⟨Pb, 0, none⟩)] rfl (by (try simp only [List.map_toArray, List.map_cons, List.map_nil, List.append_toArray, List.cons_append, List.nil_append]); first | done | rfl) ?_
        refine (top.calls HD.out.1 m hm (by have := HD.out.2.2.2.2.2.2.2.1; omega) (HD.out.2.2.2.2.2.2.2.2 _ (hxe ▸ H4.out.1))).mono ?_
        rw [← hxe]
        rintro e w4 ⟨v3, v4, rfl, hv3, ho4, hP4, hK4⟩
        refine ⟨_, rfl, ?_⟩
        obtain ⟨A5, c5, rfl⟩ := Kd.R_slice hv3
        obtain ⟨hP, e3, hK, hR, h1, h2, h4, h5, h6⟩ := HD.out
        have hlt := HP.out
        have hWs := hK.1
        have hPbl := blk_lt HP.out.box
        have hvl := Kd.N_lt HP.out.row
        have hR4 : Kd.R k25 25 w4 W.heap.size (fun k => W.heap.size ≤ k) (.slice Ao no co) outs := Kd.R_kept (Kd.R_mono (Kd.R_bound hR) (fun k hk => hk.2.1)) hK4 (fun k hk h => by
          rcases h with h | h
          · omega
          · rw [e3] at h; have := hvl k h.symm; omega)
        have hown : ∀ k, (Value.slice Ao no co).ownBlock = some k → k < w3.heap.size := fun k hk => Kd.R_lt hR k hk
        have hv3' : Kd.R (Kd.int .u8) 5 w4 w3.heap.size (fun k => w3.heap.size ≤ k) (.slice A5 x.f3.length c5) x.f3 := Kd.R_mono (Kd.R_bound hv3) (fun k hk => hk.2.1)
        have hpl := Hp.popped_length (lt := ltL) (z := z25) lc
        have ht : Hp.tk ltL z25 p (k1 + 1) lc = (x :: (Hp.tk ltL z25 p k1 (Hp.popped ltL z25 lc)).1, (Hp.tk ltL z25 p k1 (Hp.popped ltL z25 lc)).2) := by
          rw [Hp.tk, if_pos ⟨by omega, hxe ▸ HY.out⟩, ← hxe]
        rw [ht] at h1 h2
        have h6' : ∀ y ∈ Hp.popped ltL z25 lc, y.f3.length < 140737488355328 := fun y hy => h6 y ((Hp.popped_perm (lt := ltL) (z := z25) (l := lc) (by omega)).mem_iff.mp (List.mem_cons_of_mem _ hy))
        have hK4' : Kept W w4 (fun k => k = Pb ∨ some k = v.ownBlock) := hK.then_ hK4 (fun k h => .inl (by rw [← e3]; exact h))
        have HE := Aside0.mk (And.intro hP4 (And.intro (ho4.trans e3) (And.intro hK4' (And.intro hR4 (And.intro hown (And.intro hv3' (And.intro h1 (And.intro h2 (And.intro (show (Hp.popped ltL z25 lc).length ≤ k1 by omega) (And.intro (show outs.length + 1 + (Hp.popped ltL z25 lc).length < 1099511627776 by omega) h6'))))))))))
        have HW := Aside0.mk (And.intro hWs (And.intro hPbl (And.intro hvl hK4.1)))
        clear hP e3 hK hR h1 h2 h4 h5 h6 hlt hWs hPbl hvl hR4 hown hv3' hpl ht h6' hv3 ho4 hP4 hK4 hK4' hm hxe HD
        go_wp2_with ((with_reducible refine gate_dst (N := 24) rfl ?_); refine Aside0.out (p := _) ?_)
        refine Aside0.mk ?_
        obtain ⟨hP, e3, hK, hR, hown, hv3, h1, h2, h4, h5, h6⟩ := HE.out
        obtain ⟨hWs, hPbl, hvl, hws⟩ := HW.out
        at_builtin
        refine Kd.R_append k25 (w0 := w4) W.heap.size rfl (.tmp 20) (.tmp 23) 22 25 (.agg #[(.int .i64 0), (.int .i64 0), (.int .i64 0), (.slice none 0 0)]) 48 rfl hu22' info25 rfl (by decide) (by decide) (.slice Ao no co) outs x [.int .i64 x.f0, .int .i64 x.f1, .int .i64 x.f2, .slice A5 x.f3.length c5] (fun k => W.heap.size ≤ k) (fun k => w3.heap.size ≤ k) rfl rfl (k25_mkM _ _ _ _ (Kd.R_lower hv3 hWs)) (fun k hk => ⟨Nat.le_trans hWs hk, fun e => by have := hown k e.symm; omega⟩) (fun k hk => Nat.le_trans hWs (Nat.le_trans hws hk)) hR (Below.refl _ _) (Nat.le_trans hWs hws) (by omega) ?_
        intro v5 w5 hR5 hB5 hG5 hat5
        have hrow : ∀ k, (Value.slice Ao no co).ownBlock = some k → W.heap.size ≤ k := fun k hk => Kd.R_base hR k hk
        have hP5 := hP.grown hG5 W.heap.size hrow HP.out.below.size hPbl HP.out.sle (fun k hk => hvl k (by rw [← e3]; exact hk))
        have hK5 := Kept.of_grown hG5 hK (fun k hk => .inr (hrow k hk))
        have HN := Aside0.mk (show TkAt w0 W Pb S v p t1 t2 k1 v5 (Hp.popped ltL z25 lc) w5 from ⟨_, outs ++ [x], hP5, e3, hK5, Kd.R_mono hR5 (fun _ _ => trivial), by rw [List.append_assoc]; exact h1, h2, h4, by rw [List.length_append, List.length_singleton]; exact h5, h6⟩)
        obtain ⟨A6, n6, c6, rfl⟩ : ∃ A6 n6 c6, v5 = .slice A6 n6 c6 := by
          obtain ⟨A, c, e⟩ := Kd.R_slice hR5
          exact ⟨_, _, _, e⟩
        clear hP e3 hK hR hown hv3 h1 h2 h4 h5 h6 hWs hPbl hvl hws hR5 hB5 hG5 hat5 hrow hP5 hK5 HE HW
        go_wp2
        go_roundg k1
        case measure => exact Nat.lt_succ_self _
        case rel => exact ⟨_, HN⟩
      · have c6 : p x = false := by simpa using c5
        have HX := Aside0.mk (show TkPost w0 W Pb S v t1 t2 (.returned (.slice Ao no co)) w3 from by
          obtain ⟨hP, e3, hK, hR, h1, h2, h4, h5, h6⟩ := HD.out
          have ht : Hp.tk ltL z25 p (k1 + 1) lc = ([], lc) := by
            rw [Hp.tk, if_neg (fun h => c5 (by rw [HXE.out]; exact h.2))]
          rw [ht] at h1 h2
          simp only [List.append_nil] at h1
          exact ⟨_, _, rfl, h1 ▸ hR, h2 ▸ hP, e3, hK⟩)
        rw [c6]
        clear HD c5 c6
        go_wp2
        go_ret
        exact HX.out
end
end Go.Proofs.Ytghkngdcmlhmeaa.Qp

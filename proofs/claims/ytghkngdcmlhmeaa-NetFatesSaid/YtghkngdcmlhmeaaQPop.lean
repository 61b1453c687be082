/- (*pile).Pop, (*pile).Push. -/
import Derived.Test.YtghkngdcmlhmeaaQDown
set_option linter.unusedVariables false
set_option linter.unusedSimpArgs false
set_option linter.unusedSectionVars false
namespace Go.Proofs.Ytghkngdcmlhmeaa.Qp
open Go.RowKit Go.Proofs Go.Proofs.Ytghkngdcmlhmeaa.PQu Go.Proofs.YtghkngdcmlhmeaaW.PrintWords Go.Proofs.YtghkngdcmlhmeaaW.PrintLast Go.Proofs.YtghkngdcmlhmeaaW.PrintMore
--TAB
def pu_T : Bool × List (List Nat × List Nat) := (true, [([], []), ([], []), ([1], [1]), ([2], [2]), ([], []), ([4], [4]), ([3, 5], [3, 5]), ([0, 0, 1, 2, 3, 4, 5, 6], [0]), ([7, 6, 6, 0, 1, 2, 3, 4, 5, 6], [6, 7])])
def pu_B : List Nat := [0, 0, 2, 6, 0, 16, 62, 127, 255]
theorem pu_tab : rtab .any (opsOf Try.f77 2) = pu_T := by kernel_rfl
theorem pu_bits : waitsOk pu_T.2 pu_B = true := by kernel_rfl
theorem below_alloc' {B : Nat} {w : World} (hB : B ≤ w.heap.size) (o : Obj) : Below B w (w.alloc o) := (Below.refl B w).alloc hB o
set_option maxHeartbeats 4000000 in
set_option maxRecDepth 100000 in
theorem pop_reg (W : World) (Pb g cap m : Nat) (a0 a1 a2 : Int) (A3 : Option Addr) (n3 c3 : Nat) (hb : W.heap[Pb]? = some (.cells #[.slice (some ⟨g, 0, none⟩) (m + 1) cap] 76 (0, 0))) (hcap : m + 1 ≤ cap) (hm : m < 1099511627776) (hg : g < W.heap.size)
    (hc : ∀ j u, ([.int .i64 a0, .int .i64 a1, .int .i64 a2, .slice A3 n3 c3] : List Value)[j]? = some u → W.cell? ⟨g, m * 4 + j, none⟩ = some u) :
    Calls Try.prog 76 #[.pointer (some ⟨Pb, 0, none⟩)] W fun e w' => e = .returned (.iface 25 (.agg #[.int .i64 a0, .int .i64 a1, .int .i64 a2, .slice A3 n3 c3])) ∧ Below W.heap.size (W.setCell ⟨Pb, 0, none⟩ (.slice (some ⟨g, 0, none⟩) m cap)) w' := by
  have hu25 := Try.underlying25
  have hu76 := Try.underlying76
  have hPb := blk_lt hb
  have hp0 : W.cell? ⟨Pb, 0, none⟩ = some (.slice (some ⟨g, 0, none⟩) (m + 1) cap) := blk_cell hb 0
  have hpf : W.frozen? ⟨Pb, 0, none⟩ = false := blk_frozen hb 0
  have h0 : W.cell? ⟨g, m * 4, none⟩ = some (.int .i64 a0) := hc 0 _ rfl
  have h1 : W.cell? ⟨g, m * 4 + 1, none⟩ = some (.int .i64 a1) := hc 1 _ rfl
  have h2 : W.cell? ⟨g, m * 4 + 2, none⟩ = some (.int .i64 a2) := hc 2 _ rfl
  have h3 : W.cell? ⟨g, m * 4 + 3, none⟩ = some (.slice A3 n3 c3) := hc 3 _ rfl
  have am : (⟨g, 0, none⟩ : Addr).add (m * 4) = ⟨g, m * 4, none⟩ := add_plain g _
  have HB := Aside0.mk hb
  clear hb hc
  go_enter Try.func76, Try.ntmps76
  go_wp2
  go_ret
  exact ⟨rfl, below_alloc' (by simp) _⟩
section
variable {w0 W : World} {Pb : Nat} {S : Nat → Prop} {v : Value} {l : List S25}
theorem pop.calls (h : Pile w0 W Pb S v l) (m : Nat) (hm : l.length = m + 1) (hl : m < 1099511627776) :
    Calls Try.prog 76 #[.pointer (some ⟨Pb, 0, none⟩)] W fun e w' => ∃ A3 c3 v', e = .returned (.iface 25 (.agg #[.int .i64 (l.getD m z25).f0, .int .i64 (l.getD m z25).f1, .int .i64 (l.getD m z25).f2, .slice A3 (l.getD m z25).f3.length c3])) ∧
      (l.getD m z25).f3.length ≤ c3 ∧ Kd.C (Kd.int .u8) w' A3 (l.getD m z25).f3.length (l.getD m z25).f3 ∧ v'.ownBlock = v.ownBlock ∧ Pile w0 w' Pb S v' (l.take m) ∧ Kept W w' (fun k => k = Pb) := by
  obtain ⟨g, cap, rfl, hg, hlt, _⟩ := Kd.N_form h.row (by omega)
  have hcap := (Kd.N_reads' h.row).2.1
  obtain ⟨c1, hc1, hK1, hcc1, hf1⟩ := Kd.N_elem h.row z25 (m : Int) (by omega) (by omega)
  simp only [Int.toNat_natCast] at hK1 hcc1
  obtain ⟨A3, c3, rfl, hli, hFi⟩ := k25_openF hK1
  have hgP : g ≠ Pb := (h.apart g (by simp [Value.ownBlock])).2
  have hbox := h.box
  have hrow := h.row
  rw [hm] at hbox hcap
  refine (pop_reg W Pb g cap m _ _ _ A3 _ c3 hbox hcap hl hlt hcc1).mono ?_
  rintro e w' ⟨rfl, hb⟩
  have e1 : ∀ k, k < W.heap.size → k ≠ Pb → w'.heap[k]? = W.heap[k]? := fun k hk hne => (hb.block k hk).trans (Below.heap_setCell W _ _ k hne)
  have esz : W.heap.size ≤ w'.heap.size := Nat.le_trans (by simp [World.setCell]) hb.size
  have hbP : Below w0.heap.size W w' := ⟨hb.os, hb.tape, hb.output, esz, fun k hk => e1 k (Nat.lt_of_lt_of_le hk h.below.size) (by have := h.old; omega)⟩
  refine ⟨A3, c3, .slice (some ⟨g, 0, none⟩) m cap, rfl, hli, Kd.F_now (Kd.F_step hFi (fun k hk hlt => e1 k hlt (fun e => ?_))), by simp [Value.ownBlock], ⟨h.below.trans hbP, h.old, h.nS, fun k hk => h.apart k (by simpa [Value.ownBlock] using hk), ?_, ?_, fun k hk => Nat.lt_of_lt_of_le (h.sle k hk) esz⟩, esz, fun i hi hn => e1 i hi hn⟩
  · rcases hk.1 with hk1 | hk1
    · exact h.nS (e ▸ hk1)
    · exact hk.2 (by simpa [Value.ownBlock] using hk1)
  · have := blk_set hbox 0 (.slice (some ⟨g, 0, none⟩) m cap)
    exact (hb.block _ (blk_lt h.box)).trans this
  · rw [hm] at hrow
    have h2 : Kd.N k25 25 W w0.heap.size (fun k => S k ∨ some k = (Value.slice (some ⟨g, 0, none⟩) m cap).ownBlock) (.slice (some ⟨g, 0, none⟩) m cap) (l.take m) := Kd.N_take (Kd.N_mono hrow (fun k hk => by simpa [Value.ownBlock] using hk)) (by omega)
    exact Kd.N_step h2 (fun k hk hlt => e1 k hlt (fun e => by
      rcases hk with hk1 | hk1
      · exact h.nS (e ▸ hk1)
      · exact hgP (by rw [← e]; have : k = g := by simpa [Value.ownBlock] using hk1
                      exact this.symm)))
def PushPost (w0 W : World) (Pb : Nat) (v : Value) (t : List S25) (e : Ending) (w' : World) : Prop := e = .returned (.tuple #[]) ∧ ∃ S' v', Pile w0 w' Pb S' v' t ∧ Kept W w' (fun k => k = Pb ∨ some k = v.ownBlock) ∧ (v'.ownBlock = v.ownBlock ∨ ∃ b, v'.ownBlock = some b ∧ W.heap.size ≤ b)
set_option maxHeartbeats 4000000 in
set_option maxRecDepth 100000 in
theorem push.calls (h : Pile w0 W Pb S v l) (x : S25) (A3 : Option Addr) (c3 : Nat) {okx : Nat → Prop} (hx : Kd.FK k25 W okx x [.int .i64 x.f0, .int .i64 x.f1, .int .i64 x.f2, .slice A3 x.f3.length c3]) (hS : ∀ k, okx k → S k) (hl : l.length < 1099511627776) :
    Calls Try.prog 77 #[.pointer (some ⟨Pb, 0, none⟩), .iface 25 (.agg #[.int .i64 x.f0, .int .i64 x.f1, .int .i64 x.f2, .slice A3 x.f3.length c3])] W (PushPost w0 W Pb v (l ++ [x])) := by
  have hu25 := Try.underlying25
  have hu76 := Try.underlying76
  have hu76' : Try.prog.underlying 76 = some (.slice 25) := by kernel_rfl
  have hta : ∀ (c : Array Value) (W : World), (Instr.typeAssert (.iface 25 (.agg c)) 20 25 true).run Try.prog W = .ok (.tuple #[.agg c, .bool true]) W := fun _ _ => by kernel_rfl
  obtain ⟨A, cp, rfl, hcp, _⟩ := h.len
  have HP := Aside0.mk h
  have HX := Aside0.mk hx
  clear h hx
  go_enter Try.func77, Try.ntmps77
  go_wp2
  have HW1 := Aside0.mk (below_alloc (Below.refl W.heap.size W) (.cells #[.int .i64 x.f0, .int .i64 x.f1, .int .i64 x.f2, .slice A3 x.f3.length c3] 25)).drew
  have c0 := cell_of_row (W.alloc (.cells #[.int .i64 x.f0, .int .i64 x.f1, .int .i64 x.f2, .slice A3 x.f3.length c3] 25)) W.heap.size 0 #[.int .i64 x.f0, .int .i64 x.f1, .int .i64 x.f2, .slice A3 x.f3.length c3] 25 (0, 0) (blk_new W _)
  have c1 := cell_of_row (W.alloc (.cells #[.int .i64 x.f0, .int .i64 x.f1, .int .i64 x.f2, .slice A3 x.f3.length c3] 25)) W.heap.size 1 #[.int .i64 x.f0, .int .i64 x.f1, .int .i64 x.f2, .slice A3 x.f3.length c3] 25 (0, 0) (blk_new W _)
  have c2 := cell_of_row (W.alloc (.cells #[.int .i64 x.f0, .int .i64 x.f1, .int .i64 x.f2, .slice A3 x.f3.length c3] 25)) W.heap.size 2 #[.int .i64 x.f0, .int .i64 x.f1, .int .i64 x.f2, .slice A3 x.f3.length c3] 25 (0, 0) (blk_new W _)
  have c3' := cell_of_row (W.alloc (.cells #[.int .i64 x.f0, .int .i64 x.f1, .int .i64 x.f2, .slice A3 x.f3.length c3] 25)) W.heap.size 3 #[.int .i64 x.f0, .int .i64 x.f1, .int .i64 x.f2, .slice A3 x.f3.length c3] 25 (0, 0) (blk_new W _)
  have hp1 := (HW1.out.cell (World.block_lt_of_cell? _ _ (blk_cell HP.out.box 0))).trans (blk_cell HP.out.box 0)
  refine start_ (n := 9) (S := fun w' => w'.cell? ⟨Pb, 0, none⟩ = some (.slice A l.length cp) ∧ w'.cell? ⟨W.heap.size, 0, none⟩ = some (.int .i64 x.f0) ∧ w'.cell? ⟨W.heap.size, 1, none⟩ = some (.int .i64 x.f1) ∧ w'.cell? ⟨W.heap.size, 2, none⟩ = some (.int .i64 x.f2) ∧ w'.cell? ⟨W.heap.size, 3, none⟩ = some (.slice A3 x.f3.length c3)) (ds := [6, 8]) #[false, false, false, false, false, false, false, false, false] (by kernel_rfl) rfl rfl ⟨hp1, c0, c1, c2, c3'⟩ (fun hHeld => ?_)
  refine with_tabW pu_tab pu_bits (fun HT_ HW_ => ?_)
  clear c0 c1 c2 c3' hp1
  generalize (W.alloc (.cells #[.int .i64 x.f0, .int .i64 x.f1, .int .i64 x.f2, .slice A3 x.f3.length c3] 25)).drew = W2 at HW1 hHeld ⊢
  have HP2 := Aside0.mk (HP.out.step HW1.out)
  have HX2 := Aside0.mk (Kd.FK_below HX.out HW1.out)
  refine pure_ (i := 0) (N := some 12) (v := ?_) (a' := ?_) #[true, false, false, false, false, false, false, false, false] rfl rfl (any_of HT_.out (by kernel_rfl)) (fun _ _ _ h => by first | exact h | cases h.1) (Or.inl ⟨by rfl, ?_⟩) ?_ ?_
  rotate_left
  · intro w'
    go_simp
    with_reducible rfl
  rotate_left
  · simp only [Act.put, List.setIfInBounds_toArray, List.set_cons_zero, List.set_cons_succ]
    rfl
  refine pure_ (i := 1) (N := some 13) (v := ?_) (a' := ?_) #[true, true, false, false, false, false, false, false, false] rfl rfl (any_of HT_.out (by kernel_rfl)) (fun _ _ _ h => by first | exact h | cases h.1) (Or.inl ⟨by rfl, ?_⟩) ?_ ?_
  rotate_left
  · intro w'
    go_simp
    with_reducible rfl
  rotate_left
  · simp only [Act.put, List.setIfInBounds_toArray, List.set_cons_zero, List.set_cons_succ]
    rfl
  refine pure_ (i := 2) (N := some 14) (v := ?_) (a' := ?_) #[true, true, true, false, false, false, false, false, false] rfl rfl (any_of HT_.out (by kernel_rfl)) (fun _ _ _ h => by first | exact h | cases h.1) (Or.inl ⟨by rfl, ?_⟩) ?_ ?_
  rotate_left
  · intro w'
    go_simp
    with_reducible rfl
  rotate_left
  · simp only [Act.put, List.setIfInBounds_toArray, List.set_cons_zero, List.set_cons_succ]
    rfl
  refine take_ (i := 3) (N := some 15) (v := ?_) (a' := ?_) #[true, true, true, true, false, false, false, false, false] rfl rfl (take_ofW HT_.out HW_.out (by kernel_rfl)) (fun _ _ _ h => by first | exact h | cases h.1) (Or.inl ⟨by rfl, ?_⟩) hHeld ?_ ?_
  rotate_left
  · rintro w' ⟨s0, s1, s2, s3, s4⟩
    go_simp
    with_reducible rfl
  rotate_left
  · simp only [Act.put, List.setIfInBounds_toArray, List.set_cons_zero, List.set_cons_succ]
    rfl
  refine take_ (i := 4) (N := some 16) (v := ?_) (a' := ?_) #[true, true, true, true, true, false, false, false, false] rfl rfl (take_ofW HT_.out HW_.out (by kernel_rfl)) (fun _ _ _ h => by first | exact h | cases h.1) (Or.inl ⟨by rfl, ?_⟩) hHeld ?_ ?_
  rotate_left
  · rintro w' ⟨s0, s1, s2, s3, s4⟩
    go_simp
    with_reducible rfl
  rotate_left
  · simp only [Act.put, List.setIfInBounds_toArray, List.set_cons_zero, List.set_cons_succ]
    rfl
  refine one_ (i := 5) (N := some 17) #[true, true, true, true, true, true, false, false, false] rfl rfl (one_of HT_.out (by kernel_rfl)) (by decide) (fun K hK => ?_)
  refine value_ (w1 := W2.alloc (.cells #[.int .i64 x.f0, .int .i64 x.f1, .int .i64 x.f2, .slice A3 x.f3.length c3] 25)) (v := .slice (some ⟨W2.heap.size, 0, none⟩) 1 1) (by rfl) rfl ?_ ?_
  · go_simp
    try rfl
  have hb2 := below_alloc (Below.refl W2.heap.size W2) (.cells #[.int .i64 x.f0, .int .i64 x.f1, .int .i64 x.f2, .slice A3 x.f3.length c3] 25)
  refine hK.out _ _ ⟨pw_cell_below hb2 hHeld.1, pw_cell_below hb2 hHeld.2.1, pw_cell_below hb2 hHeld.2.2.1, pw_cell_below hb2 hHeld.2.2.2.1, pw_cell_below hb2 hHeld.2.2.2.2⟩ (fun _ => ?_)
  clear hK K hb2
  refine norm_ (a' := ?_) ?_ ?_
  rotate_left
  · show Act.put _ (some 17) _ = _
    simp only [Act.put, List.setIfInBounds_toArray, List.set_cons_zero, List.set_cons_succ]
    rfl
  refine last_ (i := 6) (N := some 18) #[true, true, true, true, true, true, true, false, false] rfl rfl (one_of HT_.out (by kernel_rfl)) (by decide) (fun K hK => ?_)
  have hrow : Kd.N k25 25 W2 w0.heap.size (fun k => (S k ∨ some k = (Value.slice A l.length cp).ownBlock) ∨ W2.heap.size ≤ k) (.slice A l.length cp) l := Kd.N_mono HP2.out.row (fun k hk => .inl hk)
  refine Kd.N_append_step k25 w0.heap.size (by rfl) (.tmp 15) (.tmp 17) 76 25 (.agg #[(.int .i64 0), (.int .i64 0), (.int .i64 0), (.slice none 0 0)]) 48 rfl hu76' info25 rfl (by decide) (by decide) _ l x [.int .i64 x.f0, .int .i64 x.f1, .int .i64 x.f2, .slice A3 x.f3.length c3] _ _ (by rfl) (by rfl) HX2.out (fun k hk => ⟨.inl (.inl (hS k hk)), fun e => (HP.out.apart k e.symm).1 (hS k hk)⟩) (fun k hk => .inr hk) hrow HP2.out.below HP2.out.below.size (by omega) ?_
  intro v1 w1 hN hB hG hat
  refine hK.out _ _ ?_
  clear hK K
  have hsz : W.heap.size ≤ W2.heap.size := HW1.out.size
  have hPl := blk_lt HP.out.box
  have hneP : some Pb ≠ (Value.slice A l.length cp).ownBlock := fun e => (HP.out.apart Pb e.symm).2 rfl
  have hbx : w1.heap[Pb]? = some (.cells #[.slice A l.length cp] 76 (0, 0)) := (hG.block Pb (by omega) hneP).trans HP2.out.box
  obtain ⟨A1, cc1, rfl⟩ := Kd.N_slice hN
  have hx0 : w1.cell? ⟨Pb, 0, none⟩ = some (.slice A l.length cp) := blk_cell hbx 0
  have hxf : w1.frozen? ⟨Pb, 0, none⟩ = false := blk_frozen hbx 0
  have HF := Aside0.mk (And.intro hN (And.intro hB (And.intro hG (And.intro hat (And.intro hneP hbx)))))
  clear hN hB hG hat hneP hbx hrow
  refine norm_ (a' := ?_) ?_ ?_
  rotate_left
  · show Act.put _ (some 18) _ = _
    simp only [Act.put, List.setIfInBounds_toArray, List.set_cons_zero, List.set_cons_succ]
    rfl
  refine pure_ (i := 7) (N := some 19) (v := ?_) (a' := ?_) #[true, true, true, true, true, true, true, true, false] rfl rfl (any_of HT_.out (by kernel_rfl)) (fun _ _ _ h => by first | exact h | cases h.1) (Or.inl ⟨by rfl, ?_⟩) ?_ ?_
  rotate_left
  · intro w'
    go_simp
    with_reducible rfl
  rotate_left
  · simp only [Act.put, List.setIfInBounds_toArray, List.set_cons_zero, List.set_cons_succ]
    rfl
  refine last_ (i := 8) (N := none) #[true, true, true, true, true, true, true, true, true] rfl rfl (one_of HT_.out (by kernel_rfl)) (by decide) (fun K hK => ?_)
  refine skip_ (w1 := w1.setCell ⟨Pb, 0, none⟩ (.slice A1 (l ++ [x]).length cc1)) (by rfl) rfl ?_ ?_
  · go_simp
    try rfl
  refine hK.out _ _ ?_
  clear hK K
  refine done_ (done_of HT_.out (by kernel_rfl)) ?_
  go_end0
  obtain ⟨hN, hB, hG, hat, hneP, hbx⟩ := HF.out
  have hgs := hG.size
  have hoP : ∀ k, (Value.slice A1 (l ++ [x]).length cc1).ownBlock = some k → k ≠ Pb := by
    intro k hk e
    rcases hat with hat | ⟨b, hb, hle⟩
    · exact hneP (by rw [← hat, hk, e])
    · rw [hk] at hb
      injection hb with hb
      omega
  refine ⟨rfl, fun k => ((S k ∨ some k = (Value.slice A l.length cp).ownBlock) ∨ W2.heap.size ≤ k) ∧ some k ≠ (Value.slice A1 (l ++ [x]).length cc1).ownBlock ∧ k < w1.heap.size ∧ k ≠ Pb, _, ⟨hB.setCell HP.out.old _, HP.out.old, fun h => h.2.2.2 rfl, fun k hk => ⟨fun h => h.2.1 hk.symm, hoP k hk⟩, blk_set hbx 0 _, ?_, fun k hk => by have := hk.2.2.1; simpa [World.setCell] using this⟩, ⟨?_, fun i hi hn => ?_⟩, ?_⟩
  · have hb3 := Kd.N_bound hN
    have hne2 : ∀ k, ((S k ∨ some k = (Value.slice A l.length cp).ownBlock) ∨ W2.heap.size ≤ k) → k ≠ Pb := by
      rintro k ((hk | hk) | hk) e
      · exact HP.out.nS (e ▸ hk)
      · exact hneP (by rw [← e]; exact hk)
      · omega
    refine Kd.N_far (p := ⟨Pb, 0, none⟩) (Kd.N_mono hb3 (fun k hk => ?_)) ?_ _
    · by_cases e : some k = (Value.slice A1 (l ++ [x]).length cc1).ownBlock
      · exact .inr e
      · exact .inl ⟨hk.1, e, hk.2, hne2 k hk.1⟩
    · rintro k (hk | hk)
      · exact hk.2.2.2
      · exact hoP k hk.symm
  · simp [World.setCell]; omega
  · have hiP : i ≠ Pb := fun e => hn (.inl e)
    have hiv : some i ≠ (Value.slice A l.length cp).ownBlock := fun e => hn (.inr e)
    refine (Below.heap_setCell w1 _ _ i hiP).trans ((hG.block i (by omega) hiv).trans (HW1.out.block i hi))
  · rcases hat with hat | ⟨b, hb, hle⟩
    · exact .inl hat
    · exact .inr ⟨b, hb, by omega⟩
end
end Go.Proofs.Ytghkngdcmlhmeaa.Qp

/- queue.First. -/
import Derived.Test.YtghkngdcmlhmeaaQTop
set_option linter.unusedVariables false
set_option linter.unusedSimpArgs false
set_option linter.unusedSectionVars false
namespace Go.Proofs.Ytghkngdcmlhmeaa.Qp
open Go.RowKit Go.Proofs Go.Proofs.Ytghkngdcmlhmeaa.PQu Go.Proofs.YtghkngdcmlhmeaaW.PrintWords Go.Proofs.YtghkngdcmlhmeaaW.PrintLast Go.Proofs.YtghkngdcmlhmeaaW.PrintMore
def fi_T : Bool × List (List Nat × List Nat) := (true, [([], []), ([], []), ([1], [1]), ([0, 2, 0], [0]), ([2, 3, 0, 1, 2, 3], [2]), ([4, 0, 1, 2, 3, 4], [])])
def fi_B : List Nat := [0, 0, 2, 7, 15, 31]
theorem fi_tab : rtab .any (opsOf Try.f13 5) = fi_T := by kernel_rfl
theorem fi_bits : waitsOk fi_T.2 fi_B = true := by kernel_rfl
theorem first_spec (l : List S25) (hg : ∀ x ∈ l, good x) (hl : 0 < l.length) : Hp.srt ltL l = (Hp.heaped ltL z25 l).getD 0 z25 :: Hp.srt ltL (Hp.popped ltL z25 (Hp.heaped ltL z25 l)) := by
  have hh := Hp.heaped_length (lt := ltL) (z := z25) l
  have hok : Hp.Ok ltL z25 (Hp.heaped ltL z25 l) (Hp.heaped ltL z25 l).length 0 := by rw [hh]; exact Hp.heaped_ok lt_asym lt_trans' l
  have hpl := Hp.popped_length (lt := ltL) (z := z25) (Hp.heaped ltL z25 l)
  have hpp := Hp.popped_perm (lt := ltL) (z := z25) (l := Hp.heaped ltL z25 l) (by omega)
  have h1 := taken_all l hg hok (Hp.heaped_perm l) (l.length + 1) (by omega)
  have h2 := taken_all (Hp.popped ltL z25 (Hp.heaped ltL z25 l)) (fun x hx => hg x ((hpp.trans (Hp.heaped_perm l)).mem_iff.mp (List.mem_cons_of_mem _ hx))) (by rw [hpl]; exact Hp.popped_ok lt_asym lt_trans' hok) (List.Perm.refl _) l.length (by omega)
  rw [← h1, ← h2, Hp.tk, if_pos ⟨by omega, rfl⟩]
def firstR (l : List S25) : S25 × List S25 × Bool := match Hp.srt ltL l with
  | [] => (z25, [], false)
  | x :: r => (x, r, true)
def firstF (l : List S25) : Option (S25 × List S25 × Bool) := if bndB l = true then some (firstR l) else none
def FirstPost (w : World) (q : S25 × List S25 × Bool) (e : Ending) (w' : World) : Prop := ∃ v3_ v4_ : Value, e = .returned (.tuple #[.agg #[.int .i64 q.1.f0, .int .i64 q.1.f1, .int .i64 q.1.f2, v3_], v4_, .bool q.2.2]) ∧ Kd.V (Kd.int .u8) 5 w' w.heap.size (fun k_ => (w.heap.size ≤ k_)) v3_ q.1.f3 ∧ Kd.V k25 25 w' w.heap.size (fun k_ => (w.heap.size ≤ k_)) v4_ q.2.1 ∧ Below w.heap.size w w'
set_option maxHeartbeats 4000000 in
set_option maxRecDepth 100000 in
theorem first.calls (A : Option Addr) (c : Nat) (l : List S25) (q : S25 × List S25 × Bool) (w : World) (hr : Kd.C k25 w A l.length l) (hc : l.length ≤ c) (h : firstF l = some q) :
    Calls Try.prog 13 #[.slice A l.length c] w (FirstPost w q) := by
  unfold firstF at h
  split at h
  case isFalse => cases h
  rename_i hb
  have HQ := Aside0.mk (Option.some.inj h)
  have hu25 := Try.underlying25
  have hu76 := Try.underlying76
  have HB := Aside0.mk (bndB_iff.mp hb)
  have HR := Aside0.mk (And.intro hr hc)
  clear h hb hr hc
  go_enter Try.func13, Try.ntmps13
  go_wp2_with ((with_reducible refine gate_dst (N := 8) rfl ?_); refine Aside0.out (p := _) ?_)
  refine Aside0.mk ?_
  refine goesL_ (some 8) rfl rfl Try.func29 (by kernel_rfl) rfl #[.slice A l.length c] rfl (by (try simp only [List.map_toArray, List.map_cons, List.map_nil, List.append_toArray, List.cons_append, List.nil_append]); first | done | rfl) ?_
  have hbx := below_alloc (Below.refl w.heap.size w) (.cells #[.int .i64 0, .int .i64 0, .int .i64 0, .slice none 0 0] 25)
  have hln : l.length < 1099511627775 := HB.out.1
  refine (piled.calls _ A c l (Kd.C_below HR.out.1 hbx) HR.out.2 (by omega)).mono ?_
  rintro e w1 ⟨Pb, S, v, rfl, hP, hb1, hS⟩
  refine ⟨_, rfl, ?_⟩
  have hx1 : w1.heap[w.heap.size]? = some (.cells #[.int .i64 0, .int .i64 0, .int .i64 0, .slice none 0 0] 25 (0, 0)) := (hb1.block w.heap.size (by simp)).trans (blk_new w _)
  obtain ⟨A0, c0, rfl, hc0, _⟩ := hP.len
  have hp0 : w1.cell? ⟨Pb, 0, none⟩ = some (.slice A0 (Hp.heaped ltL z25 l).length c0) := blk_cell hP.box 0
  have HP := Aside0.mk (And.intro hP hS)
  have HBB := Aside0.mk (hbx.trans (hb1.mono hbx.size))
  have HX1 := Aside0.mk hx1
  have HL := Aside0.mk hln
  clear hP hb1 hS hx1 hbx hln hc0
  go_wp2_with ((with_reducible refine gate_dst (N := 12) rfl ?_); refine Aside0.out (p := _) ?_)
  refine Aside0.mk ?_
  refine goesL_ (some 12) rfl rfl Try.func33 (by kernel_rfl) rfl #[.slice A0 (Hp.heaped ltL z25 l).length c0] rfl (by (try simp only [List.map_toArray, List.map_cons, List.map_nil, List.append_toArray, List.cons_append, List.nil_append]); first | done | rfl) ?_
  refine (len.calls HP.out.1).mono ?_
  rintro e w2 ⟨rfl, hp2, hb2⟩
  refine ⟨_, rfl, ?_⟩
  rw [Hp.heaped_length]
  have hx2 : w2.heap[w.heap.size]? = some (.cells #[.int .i64 0, .int .i64 0, .int .i64 0, .slice none 0 0] 25 (0, 0)) := (hb2.block _ (blk_lt HX1.out)).trans HX1.out
  have HP2 := Aside0.mk hp2
  have HB2 := Aside0.mk (HBB.out.trans (hb2.mono HBB.out.size))
  have HX2 := Aside0.mk hx2
  have hsz1 : w.heap.size + 1 ≤ w1.heap.size := by have := HP.out.1.below.size; simpa using this
  have HS1 := Aside0.mk (Nat.le_trans hsz1 hb2.size)
  clear hp2 hb2 hx2 hsz1 hp0 HX1 HBB
  by_cases c1 : l.length = 0
  · obtain rfl : l = [] := List.eq_nil_of_length_eq_zero c1
    have q0 : w2.cell? ⟨w.heap.size, 0, none⟩ = some (.int .i64 0) := blk_cell HX2.out 0
    have q1 : w2.cell? ⟨w.heap.size, 1, none⟩ = some (.int .i64 0) := blk_cell HX2.out 1
    have q2 : w2.cell? ⟨w.heap.size, 2, none⟩ = some (.int .i64 0) := blk_cell HX2.out 2
    have q3 : w2.cell? ⟨w.heap.size, 3, none⟩ = some (.slice none 0 0) := blk_cell HX2.out 3
    have f0 : w2.frozen? ⟨w.heap.size, 0, none⟩ = false := blk_frozen HX2.out 0
    have f1 : w2.frozen? ⟨w.heap.size, 1, none⟩ = false := blk_frozen HX2.out 1
    have f2 : w2.frozen? ⟨w.heap.size, 2, none⟩ = false := blk_frozen HX2.out 2
    have f3 : w2.frozen? ⟨w.heap.size, 3, none⟩ = false := blk_frozen HX2.out 3
    clear c1
    go_wp2_with ((with_reducible refine gate_store (t := 25) (p := 2) rfl ?_); refine Aside0.out (p := _) ?_)
    refine Aside0.mk ?_
    have i25 : (Try.prog.info? 25).map (·.size) = some 4 := by kernel_rfl
    have hst := run_store_run (P := Try.prog) (w := w2) (o := 0) 25 (.agg #[.int .i64 0, .int .i64 0, .int .i64 0, .slice none 0 0]) [.int .i64 0, .int .i64 0, .int .i64 0, .slice none 0 0] HX2.out rfl i25 (by simp) (by
      intro q hq
      simp only [List.mem_cons, List.not_mem_nil, or_false] at hq
      rcases hq with rfl | rfl | rfl | rfl <;> rfl)
    refine store_event rfl rfl rfl (w1 := w2.setCells w.heap.size 0 [.int .i64 0, .int .i64 0, .int .i64 0, .slice none 0 0]) (run_store hst rfl rfl rfl) ?_
    intro w3 hw3
    have s3 : w3 = (((w2.setCell ⟨w.heap.size, 0, none⟩ (.int .i64 0)).setCell ⟨w.heap.size, 1, none⟩ (.int .i64 0)).setCell ⟨w.heap.size, 2, none⟩ (.int .i64 0)).setCell ⟨w.heap.size, 3, none⟩ (.slice none 0 0) := hw3
    have hr3 : w3.heap[w.heap.size]? = some (.cells #[.int .i64 0, .int .i64 0, .int .i64 0, .slice none 0 0] 25 (0, 0)) := by rw [s3]; exact blk_set (blk_set (blk_set (blk_set HX2.out 0 _) 1 _) 2 _) 3 _
    have hB3 : Below w.heap.size w w3 := by rw [s3]; exact (((HB2.out.setCell (Nat.le_refl _) _).setCell (Nat.le_refl _) _).setCell (Nat.le_refl _) _).setCell (Nat.le_refl _) _
    have HX := Aside0.mk (show FirstPost w q (.returned (.tuple #[.agg #[.int .i64 0, .int .i64 0, .int .i64 0, .slice none 0 0], .slice none 0 0, .bool false])) w3 from HQ.out ▸ ⟨.slice none 0 0, .slice none 0 0, rfl, Kd.V_nil _ _ _ _ _, Kd.V_nil _ _ _ _ _, hB3⟩)
    have r0 : w3.cell? ⟨w.heap.size, 0, none⟩ = some (.int .i64 0) := blk_cell hr3 0
    have r1 : w3.cell? ⟨w.heap.size, 1, none⟩ = some (.int .i64 0) := blk_cell hr3 1
    have r2 : w3.cell? ⟨w.heap.size, 2, none⟩ = some (.int .i64 0) := blk_cell hr3 2
    have r3 : w3.cell? ⟨w.heap.size, 3, none⟩ = some (.slice none 0 0) := blk_cell hr3 3
    clear i25 hst hw3 s3 hr3 hB3 q0 q1 q2 q3 f0 f1 f2 f3
    go_wp2
    exact bodyPost_ret (v := .tuple #[.agg #[.int .i64 0, .int .i64 0, .int .i64 0, .slice none 0 0], .slice none 0 0, .bool false]) (by simp [results, Try.results13, go_sem, r0, r1, r2, r3]) rfl HX.out
  · obtain ⟨m, hm⟩ : ∃ m, l.length = m + 1 := ⟨l.length - 1, by omega⟩
    have c2 : decide (l.length = 0) = false := decide_eq_false c1
    have c3 : ((l.length : Int) == 0) = false := beq_eq_false_iff_ne.mpr (by omega)
    have c4 : (l.length == 0) = false := beq_eq_false_iff_ne.mpr c1
    have HM := Aside0.mk hm
    have hsp := first_spec l HB.out.2 (by omega)
    have hhm : (Hp.heaped ltL z25 l).getD 0 z25 ∈ Hp.heaped ltL z25 l := by
      rw [Hp.getD_lt _ _ _ (by rw [Hp.heaped_length]; omega)]; exact List.getElem_mem _
    have hgx := HB.out.2 _ ((Hp.heaped_perm l).mem_iff.mp hhm)
    have hfr : firstR l = ((Hp.heaped ltL z25 l).getD 0 z25, Hp.srt ltL (Hp.popped ltL z25 (Hp.heaped ltL z25 l)), true) := by unfold firstR; rw [hsp]
    have HG := Aside0.mk (And.intro hgx (And.intro hsp hfr))
    clear hm hsp hhm hgx hfr c1
    go_wp2_with ((with_reducible refine gate_dst (N := 16) rfl ?_); refine Aside0.out (p := _) ?_)
    refine Aside0.mk ?_
    have hhl := Hp.heaped_length (lt := ltL) (z := z25) l
    have hTop := top.calls HP2.out m (by rw [hhl, HM.out]) (by have := HL.out; have := HM.out; omega) HG.out.1.1
    have hpopok : Hp.Ok ltL z25 (Hp.popped ltL z25 (Hp.heaped ltL z25 l)) (Hp.popped ltL z25 (Hp.heaped ltL z25 l)).length 0 := by
      rw [Hp.popped_length]
      exact Hp.popped_ok lt_asym lt_trans' (by rw [hhl]; exact Hp.heaped_ok lt_asym lt_trans' l)
    have hpopg : ∀ x ∈ Hp.popped ltL z25 (Hp.heaped ltL z25 l), good x := fun x hx => HB.out.2 x (((Hp.popped_perm (lt := ltL) (z := z25) (l := Hp.heaped ltL z25 l) (by rw [hhl, HM.out]; omega)).trans (Hp.heaped_perm l)).mem_iff.mp (List.mem_cons_of_mem _ hx))
    have hpopl : (Hp.popped ltL z25 (Hp.heaped ltL z25 l)).length < 1099511627776 := by rw [Hp.popped_length, hhl]; have := HL.out; omega
    have hq : q = ((Hp.heaped ltL z25 l).getD 0 z25, Hp.srt ltL (Hp.popped ltL z25 (Hp.heaped ltL z25 l)), true) := HQ.out.symm.trans HG.out.2.2
    have HPP := Aside0.mk (And.intro hpopok (And.intro hpopg (And.intro hpopl hq)))
    clear hpopok hpopg hpopl hq hhl
    generalize (Hp.heaped ltL z25 l).getD 0 z25 = x at hTop HPP
    generalize Hp.popped ltL z25 (Hp.heaped ltL z25 l) = t at hTop HPP
    refine goesL_ (some 16) rfl rfl Try.func34 (by kernel_rfl) rfl #[.pointer (some ⟨Pb, 0, none⟩)] rfl (by (try simp only [List.map_toArray, List.map_cons, List.map_nil, List.append_toArray, List.cons_append, List.nil_append]); first | done | rfl) ?_
    refine hTop.mono ?_
    clear hTop HG HM
    rintro e w4 ⟨v3, v4, rfl, hv3, ho4, hP4, hK4⟩
    refine ⟨_, rfl, ?_⟩
    obtain ⟨A5, n5, c5, rfl⟩ : ∃ A5 n5 c5, v3 = .slice A5 n5 c5 := by
      obtain ⟨A, c, e⟩ := Kd.R_slice hv3
      exact ⟨_, _, _, e⟩
    have hPbl := blk_lt HP2.out.box
    have hvl := Kd.N_lt HP2.out.row
    have hx4 : w4.heap[w.heap.size]? = some (.cells #[.int .i64 0, .int .i64 0, .int .i64 0, .slice none 0 0] 25 (0, 0)) := blk_kept HX2.out hK4 (fun h => by
      rcases h with h | h
      · have := HP.out.1.old; simp at this; omega
      · have := Kd.N_base HP2.out.row _ h.symm; simp at this; omega)
    have HA := Aside0.mk (And.intro hv3 (And.intro ho4 (And.intro hP4 (And.intro hK4 hx4))))
    clear hv3 ho4 hP4 hK4 hx4 hPbl hvl
    go_wp2
    have hbw := (below_alloc (Below.refl w4.heap.size w4) (.cells #[.int .i64 x.f0, .int .i64 x.f1, .int .i64 x.f2, .slice A5 n5 c5] 25)).drew
    have c0' := cell_of_row (w4.alloc (.cells #[.int .i64 x.f0, .int .i64 x.f1, .int .i64 x.f2, .slice A5 n5 c5] 25)) w4.heap.size 0 #[.int .i64 x.f0, .int .i64 x.f1, .int .i64 x.f2, .slice A5 n5 c5] 25 (0, 0) (blk_new w4 _)
    have c1' := cell_of_row (w4.alloc (.cells #[.int .i64 x.f0, .int .i64 x.f1, .int .i64 x.f2, .slice A5 n5 c5] 25)) w4.heap.size 1 #[.int .i64 x.f0, .int .i64 x.f1, .int .i64 x.f2, .slice A5 n5 c5] 25 (0, 0) (blk_new w4 _)
    have c2' := cell_of_row (w4.alloc (.cells #[.int .i64 x.f0, .int .i64 x.f1, .int .i64 x.f2, .slice A5 n5 c5] 25)) w4.heap.size 2 #[.int .i64 x.f0, .int .i64 x.f1, .int .i64 x.f2, .slice A5 n5 c5] 25 (0, 0) (blk_new w4 _)
    have c3' := cell_of_row (w4.alloc (.cells #[.int .i64 x.f0, .int .i64 x.f1, .int .i64 x.f2, .slice A5 n5 c5] 25)) w4.heap.size 3 #[.int .i64 x.f0, .int .i64 x.f1, .int .i64 x.f2, .slice A5 n5 c5] 25 (0, 0) (blk_new w4 _)
    have hw5 : w4.heap.size + 1 = ((w4.alloc (.cells #[.int .i64 x.f0, .int .i64 x.f1, .int .i64 x.f2, .slice A5 n5 c5] 25)).drew).heap.size := by show _ = (w4.alloc (.cells #[.int .i64 x.f0, .int .i64 x.f1, .int .i64 x.f2, .slice A5 n5 c5] 25)).heap.size; simp
    have hb45 : (w4.alloc (.cells #[.int .i64 x.f0, .int .i64 x.f1, .int .i64 x.f2, .slice A5 n5 c5] 25)).drew.heap[w4.heap.size]? = some (.cells #[.int .i64 x.f0, .int .i64 x.f1, .int .i64 x.f2, .slice A5 n5 c5] 25 (0, 0)) := blk_new w4 _
    have HW := Aside0.mk (And.intro hw5 (And.intro hb45 hbw))
    clear hw5 hb45 hbw
    refine start_ (n := 6) (S := fun w' => w'.cell? ⟨w4.heap.size, 0, none⟩ = some (.int .i64 x.f0) ∧ w'.cell? ⟨w4.heap.size, 1, none⟩ = some (.int .i64 x.f1) ∧ w'.cell? ⟨w4.heap.size, 2, none⟩ = some (.int .i64 x.f2) ∧ w'.cell? ⟨w4.heap.size, 3, none⟩ = some (.slice A5 n5 c5)) (ds := [3]) #[false, false, false, false, false, false] (by kernel_rfl) rfl rfl ⟨c0', c1', c2', c3'⟩ (fun hHeld => ?_)
    refine with_tabW fi_tab fi_bits (fun HT_ HW_ => ?_)
    clear c0' c1' c2' c3'
    generalize (w4.alloc (.cells #[.int .i64 x.f0, .int .i64 x.f1, .int .i64 x.f2, .slice A5 n5 c5] 25)).drew = w5 at HW hHeld ⊢
    refine pure_ (i := 1) (N := some 18) (v := ?_) (a' := ?_) #[false, true, false, false, false, false] rfl rfl (any_of HT_.out (by kernel_rfl)) (fun _ _ _ h => by first | exact h | cases h.1) (Or.inl ⟨by rfl, ?_⟩) ?_ ?_
    rotate_left
    · intro w'
      go_simp
      with_reducible rfl
    rotate_left
    · simp only [Act.put, List.setIfInBounds_toArray, List.set_cons_zero, List.set_cons_succ]
      rfl
    refine take_ (i := 0) (N := some 17) (v := ?_) (a' := ?_) #[true, true, false, false, false, false] rfl rfl (take_ofW HT_.out HW_.out (by kernel_rfl)) (fun _ _ _ h => by first | exact h | cases h.1) (Or.inl ⟨by rfl, ?_⟩) hHeld ?_ ?_
    rotate_left
    · rintro w' ⟨s0, s1, s2, s3⟩
      go_simp
      with_reducible rfl
    rotate_left
    · simp only [Act.put, List.setIfInBounds_toArray, List.set_cons_zero, List.set_cons_succ]
      rfl
    refine one_ (i := 2) (N := some 19) #[true, true, true, false, false, false] rfl rfl (one_of HT_.out (by kernel_rfl)) (by decide) (fun K hK => ?_)
    refine goes_ Try.func30 (by kernel_rfl) rfl #[.pointer (some ⟨Pb, 0, none⟩), .func (.func 32) #[] #[]] (by rfl) rfl rfl (by (try simp only [List.map_toArray, List.map_cons, List.map_nil, List.append_toArray, List.cons_append, List.nil_append]); first | done | rfl) ?_
    obtain ⟨hv3, ho4, hP4, hK4, hx4⟩ := HA.out
    obtain ⟨hw5, hb45, hbw⟩ := HW.out
    obtain ⟨hok, hpg, hpl, hq⟩ := HPP.out
    refine (rest.calls (hP4.step hbw) hok (List.Perm.refl t) hpl hpg).mono ?_
    rintro e w6 ⟨vo, rfl, hR, hb6, hK6⟩
    have hPbl := blk_lt HP2.out.box
    have hvl := Kd.N_lt HP2.out.row
    have hK41 := hK4.1
    have nn : ∀ k, w2.heap.size ≤ k → ¬ (k = Pb ∨ some k = v4.ownBlock) := fun k hk h => by
      rcases h with h | h
      · omega
      · rw [ho4] at h; have := hvl k h.symm; omega
    have hb46 := blk_kept hb45 hK6 (nn _ hK41)
    have hx5 := (hbw.block _ (blk_lt hx4)).trans hx4
    have hPo := HP.out.1.old
    have hBo := Kd.N_base HP2.out.row
    have hx6 := blk_kept hx5 hK6 (fun h => by
      rcases h with h | h
      · simp at hPo; omega
      · rw [ho4] at h; have := hBo _ h.symm; simp at this; omega)
    obtain ⟨Ao, no, co, rfl⟩ : ∃ Ao no co, vo = .slice Ao no co := by
      obtain ⟨A, c, e⟩ := Kd.R_slice hR
      exact ⟨_, _, _, e⟩
    have hv5 : Kd.R (Kd.int .u8) 5 w5 w2.heap.size (fun k => w2.heap.size ≤ k) (.slice A5 n5 c5) x.f3 := Kd.R_below (Kd.R_mono (Kd.R_bound hv3) (fun k hk => hk.2.1)) hbw
    have hv6 := Kd.R_kept hv5 hK6 (fun k hk => nn k hk)
    have HE := Aside0.mk (And.intro hv6 (And.intro hR (And.intro hx6 (And.intro hb6 (And.intro hq (Nat.le_trans hK41 hbw.size))))))
    refine ⟨_, rfl, hK.out _ _ ⟨blk_cell hb46 0, blk_cell hb46 1, blk_cell hb46 2, blk_cell hb46 3⟩ (fun hHeld => ?_)⟩
    clear hK K hv3 ho4 hP4 hK4 hx4 hw5 hb45 hbw hok hpg hpl hq hR hb6 hK6 hPbl hvl hK41 nn hb46 hx5 hPo hBo hx6 hv5 hv6 HA HW HPP
    refine norm_ (a' := ?_) ?_ ?_
    rotate_left
    · show Act.put _ (some 19) _ = _
      simp only [Act.put, List.setIfInBounds_toArray, List.set_cons_zero, List.set_cons_succ]
      rfl
    refine last_ (i := 3) (N := none) #[true, true, true, true, false, false] rfl rfl (one_of HT_.out (by kernel_rfl)) (by decide) (fun K hK => ?_)
    have i25 : (Try.prog.info? 25).map (·.size) = some 4 := by kernel_rfl
    have hst := run_store_run (P := Try.prog) (w := w6) (o := 0) 25 (.agg #[.int .i64 x.f0, .int .i64 x.f1, .int .i64 x.f2, .slice A5 n5 c5]) [.int .i64 x.f0, .int .i64 x.f1, .int .i64 x.f2, .slice A5 n5 c5] HE.out.2.2.1 rfl i25 (by simp) (by
      intro q hq
      simp only [List.mem_cons, List.not_mem_nil, or_false] at hq
      rcases hq with rfl | rfl | rfl | rfl <;> rfl)
    refine skip_ (w1 := w6.setCells w.heap.size 0 [.int .i64 x.f0, .int .i64 x.f1, .int .i64 x.f2, .slice A5 n5 c5]) (by rfl) rfl ?_ ?_
    · exact run_store hst (by rfl) (by rfl) (by rfl)
    refine hK.out _ _ ?_
    clear hK K i25 hst
    obtain ⟨w7, hw7⟩ : ∃ w7, w7 = w6.setCells w.heap.size 0 [.int .i64 x.f0, .int .i64 x.f1, .int .i64 x.f2, .slice A5 n5 c5] := ⟨_, rfl⟩
    rw [← hw7]
    refine pure_ (i := 4) (N := some 3) (v := ?_) (a' := ?_) #[true, true, true, true, true, false] rfl rfl (any_of HT_.out (by kernel_rfl)) (fun _ _ _ h => by first | exact h | cases h.1) (Or.inl ⟨by rfl, ?_⟩) ?_ ?_
    rotate_left
    · intro w'
      go_simp
      with_reducible rfl
    rotate_left
    · simp only [Act.put, List.setIfInBounds_toArray, List.set_cons_zero, List.set_cons_succ]
      rfl
    refine pure_ (i := 5) (N := some 4) (v := ?_) (a' := ?_) #[true, true, true, true, true, true] rfl rfl (any_of HT_.out (by kernel_rfl)) (fun _ _ _ h => by first | exact h | cases h.1) (Or.inl ⟨by rfl, ?_⟩) ?_ ?_
    rotate_left
    · intro w'
      go_simp
      with_reducible rfl
    rotate_left
    · simp only [Act.put, List.setIfInBounds_toArray, List.set_cons_zero, List.set_cons_succ]
      rfl
    refine done_ (done_of HT_.out (by kernel_rfl)) ?_
    obtain ⟨hv6, hR, hx6, hb6, hq, hsz⟩ := HE.out
    have s7 : w7 = (((w6.setCell ⟨w.heap.size, 0, none⟩ (.int .i64 x.f0)).setCell ⟨w.heap.size, 1, none⟩ (.int .i64 x.f1)).setCell ⟨w.heap.size, 2, none⟩ (.int .i64 x.f2)).setCell ⟨w.heap.size, 3, none⟩ (.slice A5 n5 c5) := hw7
    have hr7 : w7.heap[w.heap.size]? = some (.cells #[.int .i64 x.f0, .int .i64 x.f1, .int .i64 x.f2, .slice A5 n5 c5] 25 (0, 0)) := by rw [s7]; exact blk_set (blk_set (blk_set (blk_set hx6 0 _) 1 _) 2 _) 3 _
    have hws := HS1.out
    have hbA : Below w.heap.size w (w.alloc (.cells #[.int .i64 0, .int .i64 0, .int .i64 0, .slice none 0 0] 25)) := below_alloc (Below.refl _ _) _
    have hb6' : Below w.heap.size w w6 := hbA.trans (hb6.mono hbA.size)
    have hB7 : Below w.heap.size w w7 := by rw [s7]; exact (((hb6'.setCell (Nat.le_refl _) _).setCell (Nat.le_refl _) _).setCell (Nat.le_refl _) _).setCell (Nat.le_refl _) _
    have fR : ∀ (W : World) (j : Nat) (u : Value), Kd.R (Kd.int .u8) 5 W w2.heap.size (fun k => w2.heap.size ≤ k) (.slice A5 n5 c5) x.f3 → Kd.R (Kd.int .u8) 5 (W.setCell ⟨w.heap.size, j, none⟩ u) w2.heap.size (fun k => w2.heap.size ≤ k) (.slice A5 n5 c5) x.f3 := fun W j u h => Kd.R_far (p := ⟨w.heap.size, j, none⟩) h (fun k hk => by show k ≠ w.heap.size; omega) u
    have fQ : ∀ (W : World) (j : Nat) (u : Value), Kd.R k25 25 W w5.heap.size (fun k => w5.heap.size ≤ k) (.slice Ao no co) (Hp.srt ltL t) → Kd.R k25 25 (W.setCell ⟨w.heap.size, j, none⟩ u) w5.heap.size (fun k => w5.heap.size ≤ k) (.slice Ao no co) (Hp.srt ltL t) := fun W j u h => Kd.R_far (p := ⟨w.heap.size, j, none⟩) h (fun k hk => by show k ≠ w.heap.size; omega) u
    have hv7 : Kd.R (Kd.int .u8) 5 w7 w2.heap.size (fun k => w2.heap.size ≤ k) (.slice A5 n5 c5) x.f3 := by rw [s7]; exact fR _ 3 _ (fR _ 2 _ (fR _ 1 _ (fR _ 0 _ hv6)))
    have hR7 : Kd.R k25 25 w7 w5.heap.size (fun k => w5.heap.size ≤ k) (.slice Ao no co) (Hp.srt ltL t) := by rw [s7]; exact fQ _ 3 _ (fQ _ 2 _ (fQ _ 1 _ (fQ _ 0 _ (Kd.R_mono (Kd.R_bound hR) (fun k hk => hk.2.1)))))
    have HX := Aside0.mk (show FirstPost w q (.returned (.tuple #[.agg #[.int .i64 x.f0, .int .i64 x.f1, .int .i64 x.f2, .slice A5 n5 c5], .slice Ao no co, .bool true])) w7 from hq ▸ ⟨.slice A5 n5 c5, .slice Ao no co, rfl, Kd.R_V (base := w2.heap.size) (Kd.R_mono hv7 (fun k hk => by omega)), Kd.R_V (base := w5.heap.size) (Kd.R_mono hR7 (fun k hk => by omega)), hB7⟩)
    have r0 : w7.cell? ⟨w.heap.size, 0, none⟩ = some (.int .i64 x.f0) := blk_cell hr7 0
    have r1 : w7.cell? ⟨w.heap.size, 1, none⟩ = some (.int .i64 x.f1) := blk_cell hr7 1
    have r2 : w7.cell? ⟨w.heap.size, 2, none⟩ = some (.int .i64 x.f2) := blk_cell hr7 2
    have r3 : w7.cell? ⟨w.heap.size, 3, none⟩ = some (.slice A5 n5 c5) := blk_cell hr7 3
    clear hv6 hR hx6 hb6 hq hsz s7 hr7 hws hbA hb6' hB7 fR fQ hv7 hR7 HE hw7
    go_wp2
    exact bodyPost_ret (v := .tuple #[.agg #[.int .i64 x.f0, .int .i64 x.f1, .int .i64 x.f2, .slice A5 n5 c5], .slice Ao no co, .bool true]) (by simp [results, Try.results13, go_sem, r0, r1, r2, r3]) rfl HX.out
end Go.Proofs.Ytghkngdcmlhmeaa.Qp

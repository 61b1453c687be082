/- QueueRight: the walk. -/
import Derived.Test.YtghkngdcmlhmeaaQParts
import Derived.Test.YtghkngdcmlhmeaaQRef
import Derived.Test.YtghkngdcmlhmeaaPQux14
set_option linter.unusedVariables false
set_option linter.unusedSimpArgs false
set_option linter.unusedSectionVars false
namespace Go.Proofs.Ytghkngdcmlhmeaa.Qw
open Go.RowKit Go.Proofs Go.Proofs.Ytghkngdcmlhmeaa.PQu Go.Proofs.YtghkngdcmlhmeaaW.PrintWords Go.Proofs.YtghkngdcmlhmeaaW.PrintLast Go.Proofs.YtghkngdcmlhmeaaW.PrintMore Go.Proofs.Ytghkngdcmlhmeaa.Qp Go.Proofs.Ytghkngdcmlhmeaa.Qs Go.Proofs.Ytghkngdcmlhmeaa.Spec
def fl (n m : Nat) : Array Bool := ((List.range n).map (fun i => m.testBit i)).toArray
def qr_T : Bool × List (List Nat × List Nat) := (true, [([], []), ([], []), ([0, 1], [0, 1]), ([], []), ([], []), ([3, 4, 2], [3, 4]), ([2, 5], [2, 5]), ([6, 5], [6]), ([7], [7]), ([8, 7, 7], [7, 8]), ([7], [7]), ([9, 10, 9, 7], [7, 9, 10]), ([11, 7], [7, 11]), ([7, 12], [7, 12]), ([13, 11], [13]), ([14], [14]), ([14], [14]), ([15, 16, 14, 14], [14, 15, 16]), ([14], [14]), ([14], [14]), ([18, 19, 17, 14], [14, 18, 19]), ([14], [14]), ([21, 14], [14, 21]), ([20, 22, 20, 14], [14, 20, 22]), ([23, 23, 14], [14, 23]), ([17, 24, 24, 14], [14, 17, 24]), ([25, 14], [14, 25]), ([14, 26], [14, 26]), ([27, 25], [27]), ([28], [28]), ([28], [28]), ([29, 30, 28, 28], [28, 29, 30]), ([31, 28], [28, 31]), ([28, 32], [28, 32]), ([33, 31], [33]), ([34], [34]), ([34], [34]), ([35, 36, 34, 34], [34, 35, 36]), ([37, 34], [34, 37]), ([34, 38], [34, 38]), ([39, 37], [39]), ([40], [40]), ([40], [40]), ([41, 42, 40, 40], [40, 41, 42]), ([43, 40], [40, 43]), ([40, 44], [40, 44])])
def qr_B : List Nat := [0, 0, 3, 0, 0, 31, 63, 127, 255, 511, 255, 2047, 4095, 8191, 16383, 32767, 32767, 131071, 32767, 32767, 1048575, 32767, 2129919, 8388607, 16777215, 33554431, 67108863, 134217727, 268435455, 536870911, 536870911, 2147483647, 4294967295, 8589934591, 17179869183, 34359738367, 34359738367, 137438953471, 274877906943, 549755813887, 1099511627775, 2199023255551, 2199023255551, 8796093022207, 17592186044415, 35184372088831]
theorem qr_tab : rtab .any (opsOf Try.f3 11) = qr_T := by kernel_rfl
theorem qr_bits : waitsOk qr_T.2 qr_B = true := by kernel_rfl

def qs_T : Bool × List (List Nat × List Nat) := (true, [([], []), ([0], [0]), ([1], [1]), ([1, 2], [1, 2]), ([3, 1], [3]), ([4], [4]), ([4], [4]), ([6, 4], [4, 6]), ([7, 4], [4, 7]), ([8, 4], [4, 8]), ([5, 9, 4], [4, 5, 9]), ([4, 10], [4, 10]), ([11, 4], [11]), ([12], [12]), ([12], [12]), ([14, 12], [12, 14]), ([15, 12], [12, 15]), ([13, 16, 12, 12], [12, 13, 16]), ([12, 17], [12, 17]), ([18, 17], [18]), ([19], [19]), ([19], [19]), ([21, 19], [19, 21]), ([20, 22, 19, 19], [19, 20, 22]), ([19, 23], [19, 23]), ([24, 23, 0, 1, 2, 3, 4, 5, 6, 7, 8, 9, 10, 11, 12, 13, 14, 15, 16, 17, 18, 19, 20, 21, 22, 23, 24], [24])])
def qs_B : List Nat := [0, 1, 3, 7, 15, 31, 31, 95, 223, 479, 1023, 2047, 4095, 8191, 8191, 24575, 57343, 131071, 262143, 524287, 1048575, 1048575, 3145727, 8388607, 16777215, 33554431]
theorem qs_tab : rtab .any (opsOf Try.f3 15) = qs_T := by kernel_rfl
theorem qs_bits : waitsOk qs_T.2 qs_B = true := by kernel_rfl
theorem refLessC (w : World) (x y : S25) (A2 : Option Addr) (c2 : Nat) (A3 : Option Addr) (c3 : Nat) (h2 : Kd.C (Kd.int .u8) w A2 x.f3.length x.f3) (l2 : x.f3.length ≤ c2) (h3 : Kd.C (Kd.int .u8) w A3 y.f3.length y.f3) (l3 : y.f3.length ≤ c3) :
    Calls Try.prog 16 #[.agg #[.int .i64 x.f0, .int .i64 x.f1, .int .i64 x.f2, .slice A2 x.f3.length c2], .agg #[.int .i64 y.f0, .int .i64 y.f1, .int .i64 y.f2, .slice A3 y.f3.length c3]] w fun e w' => e = .returned (.bool (ltL x y)) ∧ Below w.heap.size w w' :=
  affidavitref20_Less.calls _ _ _ A2 c2 _ _ _ _ A3 c3 _ _ w h2 l2 h3 l3 (refLess_spec x y)
theorem refSortC (w : World) (A : Option Addr) (c : Nat) (l : List S25) (hr : Kd.C k25 w A l.length l) (hc : l.length ≤ c) (hl : l.length < 1000000) : Calls Try.prog 10 #[.slice A l.length c] w fun e w' => ∃ B d, e = .returned (.slice B (Hp.srt ltL l).length d) ∧ (Hp.srt ltL l).length ≤ d ∧ Kd.C k25 w' B (Hp.srt ltL l).length (Hp.srt ltL l) ∧ Below w.heap.size w w' := by
  obtain ⟨K, hK⟩ := evRSorted l hl
  refine (affidavitref20_Sorted.calls K (fun k => k < w.heap.size) A c l _ w (Kd.V_mk hc (Kd.C_F k25_heap hr)) (hK K (Nat.le_refl _))).mono ?_
  rintro e w' ⟨v, rfl, hv, hb⟩
  obtain ⟨B, d, rfl⟩ := Kd.N_slice hv
  exact ⟨B, d, rfl, (Kd.N_reads' hv).2.1, (Kd.N_reads' hv).2.2, hb⟩
theorem refDueC (w : World) (A : Option Addr) (c : Nat) (l : List S25) (now : Int) (hr : Kd.C k25 w A l.length l) (hc : l.length ≤ c) (hl : l.length < 1000000) : Calls Try.prog 12 #[.slice A l.length c, .int .i64 now] w fun e w' => ∃ B d B' d', e = .returned (.tuple #[.slice B (dueD l now).length d, .slice B' (dueR l now).length d']) ∧ (dueD l now).length ≤ d ∧ (dueR l now).length ≤ d' ∧ Kd.C k25 w' B (dueD l now).length (dueD l now) ∧ Kd.C k25 w' B' (dueR l now).length (dueR l now) ∧ Below w.heap.size w w' := by
  obtain ⟨K, hK⟩ := evRDue l now hl
  refine (affidavitref20_Due.calls K (fun k => k < w.heap.size) A c l now _ _ w (Kd.V_mk hc (Kd.C_F k25_heap hr)) (hK K (Nat.le_refl _))).mono ?_
  rintro e w' ⟨v, v', rfl, hv, hv', hb⟩
  obtain ⟨B, d, rfl⟩ := Kd.N_slice hv
  obtain ⟨B', d', rfl⟩ := Kd.N_slice hv'
  exact ⟨B, d, B', d', rfl, (Kd.N_reads' hv).2.1, (Kd.N_reads' hv').2.1, (Kd.N_reads' hv).2.2, (Kd.N_reads' hv').2.2, hb⟩
theorem firstC (w : World) (A : Option Addr) (c : Nat) (l : List S25) (hr : Kd.C k25 w A l.length l) (hc : l.length ≤ c) (h : bndB l = true) (fa : S25) (fr : List S25) (fok : Bool) (hq : firstR l = (fa, fr, fok)) : Calls Try.prog 13 #[.slice A l.length c] w fun e w' => ∃ B d B' d', e = .returned (.tuple #[.agg #[.int .i64 fa.f0, .int .i64 fa.f1, .int .i64 fa.f2, .slice B fa.f3.length d], .slice B' fr.length d', .bool fok]) ∧ fa.f3.length ≤ d ∧ fr.length ≤ d' ∧ Kd.C (Kd.int .u8) w' B fa.f3.length fa.f3 ∧ Kd.C k25 w' B' fr.length fr ∧ Below w.heap.size w w' := by
  refine (first.calls A c l _ w hr hc (if_pos h)).mono ?_
  rw [hq]
  rintro e w' ⟨v, v', rfl, hv, hv', hb⟩
  obtain ⟨B, d, rfl⟩ := Kd.V_slice hv
  obtain ⟨B', d', rfl⟩ := Kd.V_slice hv'
  exact ⟨B, d, B', d', rfl, (Kd.V_reads' hv).2.1, (Kd.V_reads' hv').2.1, (Kd.V_reads' hv).2.2, (Kd.V_reads' hv').2.2, hb⟩
structure At2 (w W : World) (Al Am As Ad Ar Ae Af Ax Ay Aa Aq : Option Addr) (cx cy ca : Nat) (l s D R fr : List S25) (x y fa : S25) (bx by_ bf : Nat) : Prop where
  ba : Below w.heap.size w W
  rl : Kd.C k25 W Al l.length l
  rm : Kd.C k25 W Am l.length l
  rs : Kd.C k25 W As s.length s
  rd : Kd.C k25 W Ad D.length D
  rr : Kd.C k25 W Ar R.length R
  re : Kd.C k25 W Ae D.length D
  rf : Kd.C k25 W Af R.length R
  rq : Kd.C k25 W Aq fr.length fr
  gx : Kd.C (Kd.int .u8) W Ax x.f3.length x.f3
  hx : x.f3.length ≤ cx
  kx : W.heap[bx]? = some (.cells #[.int .i64 x.f0, .int .i64 x.f1, .int .i64 x.f2, .slice Ax x.f3.length cx] 25 (0, 0))
  gy : Kd.C (Kd.int .u8) W Ay y.f3.length y.f3
  hy : y.f3.length ≤ cy
  ky : W.heap[by_]? = some (.cells #[.int .i64 y.f0, .int .i64 y.f1, .int .i64 y.f2, .slice Ay y.f3.length cy] 25 (0, 0))
  ga : Kd.C (Kd.int .u8) W Aa fa.f3.length fa.f3
  ha : fa.f3.length ≤ ca
  ka : W.heap[bf]? = some (.cells #[.int .i64 fa.f0, .int .i64 fa.f1, .int .i64 fa.f2, .slice Aa fa.f3.length ca] 25 (0, 0))
theorem At2.step {w W W' : World} {Al Am As Ad Ar Ae Af Ax Ay Aa Aq : Option Addr} {cx cy ca : Nat} {l s D R fr : List S25} {x y fa : S25} {bx by_ bf : Nat} (h : At2 w W Al Am As Ad Ar Ae Af Ax Ay Aa Aq cx cy ca l s D R fr x y fa bx by_ bf) (hb : Below W.heap.size W W') : At2 w W' Al Am As Ad Ar Ae Af Ax Ay Aa Aq cx cy ca l s D R fr x y fa bx by_ bf :=
  ⟨h.ba.trans (hb.mono h.ba.size), Kd.C_below h.rl hb, Kd.C_below h.rm hb, Kd.C_below h.rs hb, Kd.C_below h.rd hb, Kd.C_below h.rr hb, Kd.C_below h.re hb, Kd.C_below h.rf hb, Kd.C_below h.rq hb, Kd.C_below h.gx hb, h.hx, (hb.block _ (blk_lt h.kx)).trans h.kx, Kd.C_below h.gy hb, h.hy, (hb.block _ (blk_lt h.ky)).trans h.ky, Kd.C_below h.ga hb, h.ha, (hb.block _ (blk_lt h.ka)).trans h.ka⟩
set_option maxHeartbeats 16000000 in
set_option maxRecDepth 100000 in
theorem right.calls (w : World) (Al Ax Ay : Option Addr) (cl cx cy : Nat) (l : List S25) (x y : S25) (now : Int)
    (hrl : Kd.C k25 w Al l.length l) (hcl : l.length ≤ cl) (hrx : Kd.C (Kd.int .u8) w Ax x.f3.length x.f3) (hlx : x.f3.length ≤ cx) (hry : Kd.C (Kd.int .u8) w Ay y.f3.length y.f3) (hly : y.f3.length ≤ cy)
    (gl : ∀ u ∈ l, good u) (gx : good x) :
    Calls Try.prog 3 #[.slice Al l.length cl, .agg #[.int .i64 x.f0, .int .i64 x.f1, .int .i64 x.f2, .slice Ax x.f3.length cx], .agg #[.int .i64 y.f0, .int .i64 y.f1, .int .i64 y.f2, .slice Ay y.f3.length cy], .int .i64 now] w fun e w' => e = .returned (.bool true) ∧ Below w.heap.size w w' := by
  have hu25 := Try.underlying25
  have H0 := Aside0.mk (And.intro hrl (And.intro hrx hry))
  have HL := Aside0.mk (And.intro hcl (And.intro hlx hly))
  have HG := Aside0.mk (And.intro gl gx)
  clear hrl hcl hrx hlx hry hly gl gx
  go_enter Try.func3, Try.ntmps3
  go_wp2_with ((with_reducible refine gate_dst (N := 5) rfl ?_); refine Aside0.out (p := _) ?_)
  refine Aside0.mk ?_
  refine box_event (by rfl) (N := 5) rfl (cs := #[.int .i64 x.f0, .int .i64 x.f1, .int .i64 x.f2, .slice Ax x.f3.length cx]) (t := 25) ?hr ?_
  case hr => first | (go_simp; done) | (go_simp; rfl)
  intro bx hbx v1 kx hb1
  clear hbx
  have Kx := Aside0.mk kx
  have HB1 := Aside0.mk hb1
  clear kx hb1
  go_wp2_with ((with_reducible refine gate_dst (N := 6) rfl ?_); refine Aside0.out (p := _) ?_)
  refine Aside0.mk ?_
  refine box_event (by rfl) (N := 6) rfl (cs := #[.int .i64 y.f0, .int .i64 y.f1, .int .i64 y.f2, .slice Ay y.f3.length cy]) (t := 25) ?hr ?_
  case hr => first | (go_simp; done) | (go_simp; rfl)
  intro by_ hby_ v2 ky hb2
  clear hby_
  have Ky := Aside0.mk ky
  have HB2 := Aside0.mk hb2
  clear ky hb2
  have HB : Aside0 (Below w.heap.size w v2) := ⟨HB1.out.trans (HB2.out.mono HB1.out.size)⟩
  have n_ := Aside0.mk ((HB2.out.block _ (blk_lt Kx.out)).trans Kx.out)
  clear Kx
  have Kx := n_
  clear n_
  have Cl := Aside0.mk (Kd.C_below H0.out.1 HB.out)
  have Cx := Aside0.mk (Kd.C_below H0.out.2.1 HB.out)
  have Cy := Aside0.mk (Kd.C_below H0.out.2.2 HB.out)
  clear H0 HB1 HB2
  go_wp2_with ((with_reducible refine gate_dst (N := 20) rfl ?_); refine Aside0.out (p := _) ?_)
  refine Aside0.mk ?_
  refine goesL_ (some 20) rfl rfl Try.func8 (by kernel_rfl) rfl #[] rfl (by (try simp only [List.map_toArray, List.map_cons, List.map_nil, List.append_toArray, List.cons_append, List.nil_append]); first | done | rfl) ?_
  refine (awakeC _).mono ?_
  rintro e w1 ⟨rfl, hb⟩
  refine ⟨_, rfl, ?_⟩
  have n_ := Aside0.mk (HB.out.trans (hb.mono HB.out.size))
  clear HB
  have HB := n_
  clear n_
  have n_ := Aside0.mk (Kd.C_below Cl.out hb)
  clear Cl
  have Cl := n_
  clear n_
  have n_ := Aside0.mk (Kd.C_below Cx.out hb)
  clear Cx
  have Cx := n_
  clear n_
  have n_ := Aside0.mk (Kd.C_below Cy.out hb)
  clear Cy
  have Cy := n_
  clear n_
  have n_ := Aside0.mk ((hb.block _ (blk_lt Kx.out)).trans Kx.out)
  clear Kx
  have Kx := n_
  clear n_
  have n_ := Aside0.mk ((hb.block _ (blk_lt Ky.out)).trans Ky.out)
  clear Ky
  have Ky := n_
  clear n_
  clear hb
  go_wp2_with ((with_reducible refine gate_dst (N := 23) rfl ?_); refine Aside0.out (p := _) ?_)
  refine Aside0.mk ?_
  refine goesL_ (some 23) rfl rfl Try.func9 (by kernel_rfl) rfl #[.slice Al l.length cl] rfl (by (try simp only [List.map_toArray, List.map_cons, List.map_nil, List.append_toArray, List.cons_append, List.nil_append]); first | done | rfl) ?_
  refine (shortC _ Al cl l Cl.out HL.out.1).mono ?_
  rintro e w2 ⟨rfl, hb⟩
  refine ⟨_, rfl, ?_⟩
  have n_ := Aside0.mk (HB.out.trans (hb.mono HB.out.size))
  clear HB
  have HB := n_
  clear n_
  have n_ := Aside0.mk (Kd.C_below Cl.out hb)
  clear Cl
  have Cl := n_
  clear n_
  have n_ := Aside0.mk (Kd.C_below Cx.out hb)
  clear Cx
  have Cx := n_
  clear n_
  have n_ := Aside0.mk (Kd.C_below Cy.out hb)
  clear Cy
  have Cy := n_
  clear n_
  have n_ := Aside0.mk ((hb.block _ (blk_lt Kx.out)).trans Kx.out)
  clear Kx
  have Kx := n_
  clear n_
  have n_ := Aside0.mk ((hb.block _ (blk_lt Ky.out)).trans Ky.out)
  clear Ky
  have Ky := n_
  clear n_
  clear hb
  cases hsl : shortB l with
  | false =>
    go_wp2
    go_ret
    exact ⟨rfl, HB.out⟩
  | true =>
    have HS := Aside0.mk (short_iff hsl)
    clear hsl
    have qx0 : w2.cell? ⟨bx, 0, none⟩ = some (.int .i64 x.f0) := blk_cell Kx.out 0
    have qx1 : w2.cell? ⟨bx, 1, none⟩ = some (.int .i64 x.f1) := blk_cell Kx.out 1
    have qx2 : w2.cell? ⟨bx, 2, none⟩ = some (.int .i64 x.f2) := blk_cell Kx.out 2
    have qx3 : w2.cell? ⟨bx, 3, none⟩ = some (.slice Ax x.f3.length cx) := blk_cell Kx.out 3
    have qy0 : w2.cell? ⟨by_, 0, none⟩ = some (.int .i64 y.f0) := blk_cell Ky.out 0
    have qy1 : w2.cell? ⟨by_, 1, none⟩ = some (.int .i64 y.f1) := blk_cell Ky.out 1
    have qy2 : w2.cell? ⟨by_, 2, none⟩ = some (.int .i64 y.f2) := blk_cell Ky.out 2
    have qy3 : w2.cell? ⟨by_, 3, none⟩ = some (.slice Ay y.f3.length cy) := blk_cell Ky.out 3
    by_cases h3 : x.f3.length ≤ 300
    rotate_left
    · have bx1 : decide ((x.f3.length : Int) > 300) = true := decide_eq_true (by omega)
      have bx2 : decide (300 < (x.f3.length : Int)) = true := decide_eq_true (by omega)
      have bx3 : decide (300 < x.f3.length) = true := decide_eq_true (by omega)
      go_wp2
      go_ret
      exact ⟨rfl, HB.out⟩
    have bx1 : decide ((x.f3.length : Int) > 300) = false := decide_eq_false (by omega)
    have bx2 : decide (300 < (x.f3.length : Int)) = false := decide_eq_false (by omega)
    have bx3 : decide (300 < x.f3.length) = false := decide_eq_false (by omega)
    by_cases h4 : y.f3.length ≤ 300
    rotate_left
    · have by1 : decide ((y.f3.length : Int) > 300) = true := decide_eq_true (by omega)
      have by2 : decide (300 < (y.f3.length : Int)) = true := decide_eq_true (by omega)
      have by3 : decide (300 < y.f3.length) = true := decide_eq_true (by omega)
      go_wp2
      go_ret
      exact ⟨rfl, HB.out⟩
    have by1 : decide ((y.f3.length : Int) > 300) = false := decide_eq_false (by omega)
    have by2 : decide (300 < (y.f3.length : Int)) = false := decide_eq_false (by omega)
    have by3 : decide (300 < y.f3.length) = false := decide_eq_false (by omega)
    have HS3 := Aside0.mk (And.intro h3 h4)
    clear h3 h4
    have HBL := Aside0.mk (bndB_iff.mpr ⟨by have := HS.out; omega, HG.out.1⟩ : bndB l = true)
    go_upto_region 5 with fail
    clear qx0 qx1 qx2 qx3
    clear qy0 qy1 qy2 qy3
    clear bx1 bx2 bx3 by1 by2 by3
    go_wp2_with ((with_reducible refine gate_dst (N := 37) rfl ?_); refine Aside0.out (p := _) ?_)
    refine Aside0.mk ?_
    have HF := Aside0.mk (Kd.C_F k25_heap Cl.out)
    refine Kd.N_lit k25 (w0 := w2) w2.heap.size 25 (by rfl) (N' := 37) rfl (xs := ([] : List S25)) (inner := []) (ok := fun _ => True) (okp := fun _ => True) ?hr ?hp (fun _ hk => hk) trivial (Below.refl _ _) (Nat.le_refl _) (by simp) ?_
    case hr => first | (go_simp; done) | (go_simp; rfl)
    case hp => exact Reps.none _ _
    intro v37 u1 hn hb _ _
    have HN := Aside0.mk (And.intro hn hb)
    clear hn hb
    obtain ⟨A37, c37, rfl⟩ := Kd.N_slice HN.out.1
    go_wp2_with ((with_reducible refine gate_dst (N := 39) rfl ?_); refine Aside0.out (p := _) ?_)
    refine Aside0.mk ?_
    at_builtin
    refine Kd.N_append_rows k25 (w0 := w2) w2.heap.size rfl (.tmp 37) (.tmp 38) 22 25 (.agg #[(.int .i64 0), (.int .i64 0), (.int .i64 0), (.slice none 0 0)]) 48 rfl Try.underlying22 info25 rfl (by decide) (by omega) _ _ l Al l.length cl (fun _ => True) (fun k => k < w2.heap.size) rfl rfl HN.out.1 (Kd.F_below HF.out HN.out.2) (fun k hk => ⟨trivial, fun e => by have := Kd.N_base HN.out.1 _ e.symm; omega⟩) (fun _ _ => trivial) HN.out.2 HN.out.2.size (by have := HS.out; simp; omega) ?_
    intro v39 u2 hn hb _ _
    rw [List.nil_append] at hn
    obtain ⟨Am, cm, rfl⟩ := Kd.N_slice hn
    have Cm := Aside0.mk (Kd.N_reads' hn).2.2
    have Lm := Aside0.mk (Kd.N_reads' hn).2.1
    clear hn HN HF
    have n_ := Aside0.mk (HB.out.trans (hb.mono HB.out.size))
    clear HB
    have HB := n_
    clear n_
    have n_ := Aside0.mk (Kd.C_below Cl.out hb)
    clear Cl
    have Cl := n_
    clear n_
    have n_ := Aside0.mk (Kd.C_below Cx.out hb)
    clear Cx
    have Cx := n_
    clear n_
    have n_ := Aside0.mk (Kd.C_below Cy.out hb)
    clear Cy
    have Cy := n_
    clear n_
    have n_ := Aside0.mk ((hb.block _ (blk_lt Kx.out)).trans Kx.out)
    clear Kx
    have Kx := n_
    clear n_
    have n_ := Aside0.mk ((hb.block _ (blk_lt Ky.out)).trans Ky.out)
    clear Ky
    have Ky := n_
    clear n_
    clear hb
    go_wp2_with ((with_reducible refine gate_dst (N := 41) rfl ?_); refine Aside0.out (p := _) ?_)
    refine Aside0.mk ?_
    refine goesL_ (some 41) rfl rfl Try.func10 (by kernel_rfl) rfl #[.slice Al l.length cl] rfl (by (try simp only [List.map_toArray, List.map_cons, List.map_nil, List.append_toArray, List.cons_append, List.nil_append]); first | done | rfl) ?_
    refine (refSortC _ Al cl l Cl.out HL.out.1 (by have := HS.out; omega)).mono ?_
    rintro e w3 ⟨As, cs, rfl, hd, hr, hb⟩
    refine ⟨_, rfl, ?_⟩
    have n_ := Aside0.mk (HB.out.trans (hb.mono HB.out.size))
    clear HB
    have HB := n_
    clear n_
    have n_ := Aside0.mk (Kd.C_below Cl.out hb)
    clear Cl
    have Cl := n_
    clear n_
    have n_ := Aside0.mk (Kd.C_below Cx.out hb)
    clear Cx
    have Cx := n_
    clear n_
    have n_ := Aside0.mk (Kd.C_below Cy.out hb)
    clear Cy
    have Cy := n_
    clear n_
    have n_ := Aside0.mk ((hb.block _ (blk_lt Kx.out)).trans Kx.out)
    clear Kx
    have Kx := n_
    clear n_
    have n_ := Aside0.mk ((hb.block _ (blk_lt Ky.out)).trans Ky.out)
    clear Ky
    have Ky := n_
    clear n_
    have n_ := Aside0.mk (Kd.C_below Cm.out hb)
    clear Cm
    have Cm := n_
    clear n_
    have Cs := Aside0.mk hr
    have Ls := Aside0.mk hd
    clear hd hr hb
    obtain ⟨s, hs⟩ : ∃ s, s = Hp.srt ltL l := ⟨_, rfl⟩
    rw [← hs] at Cs Ls ⊢
    have HSS := Aside0.mk hs
    clear hs
    go_wp2_with ((with_reducible refine gate_dst (N := 45) rfl ?_); refine Aside0.out (p := _) ?_)
    refine Aside0.mk ?_
    refine goesL_ (some 45) rfl rfl Try.func11 (by kernel_rfl) rfl #[.slice Am l.length cm, .int .i64 now] rfl (by (try simp only [List.map_toArray, List.map_cons, List.map_nil, List.append_toArray, List.cons_append, List.nil_append]); first | done | rfl) ?_
    refine (dueC _ Am cm l now Cm.out Lm.out HBL.out).mono ?_
    rintro e w4 ⟨Ad, cd, Ar, cr, rfl, hd, hd2, hr, hr2, hb⟩
    refine ⟨_, rfl, ?_⟩
    have n_ := Aside0.mk (HB.out.trans (hb.mono HB.out.size))
    clear HB
    have HB := n_
    clear n_
    have n_ := Aside0.mk (Kd.C_below Cl.out hb)
    clear Cl
    have Cl := n_
    clear n_
    have n_ := Aside0.mk (Kd.C_below Cx.out hb)
    clear Cx
    have Cx := n_
    clear n_
    have n_ := Aside0.mk (Kd.C_below Cy.out hb)
    clear Cy
    have Cy := n_
    clear n_
    have n_ := Aside0.mk ((hb.block _ (blk_lt Kx.out)).trans Kx.out)
    clear Kx
    have Kx := n_
    clear n_
    have n_ := Aside0.mk ((hb.block _ (blk_lt Ky.out)).trans Ky.out)
    clear Ky
    have Ky := n_
    clear n_
    have n_ := Aside0.mk (Kd.C_below Cm.out hb)
    clear Cm
    have Cm := n_
    clear n_
    have n_ := Aside0.mk (Kd.C_below Cs.out hb)
    clear Cs
    have Cs := n_
    clear n_
    have Cd := Aside0.mk hr
    have Ld := Aside0.mk hd
    have Cr := Aside0.mk hr2
    have Lr := Aside0.mk hd2
    clear hd hr hd2 hr2 hb
    go_wp2_with ((with_reducible refine gate_dst (N := 51) rfl ?_); refine Aside0.out (p := _) ?_)
    refine Aside0.mk ?_
    refine goesL_ (some 51) rfl rfl Try.func12 (by kernel_rfl) rfl #[.slice Al l.length cl, .int .i64 now] rfl (by (try simp only [List.map_toArray, List.map_cons, List.map_nil, List.append_toArray, List.cons_append, List.nil_append]); first | done | rfl) ?_
    refine (refDueC _ Al cl l now Cl.out HL.out.1 (by have := HS.out; omega)).mono ?_
    rintro e w5 ⟨Ae, ce, Af, cf, rfl, hd, hd2, hr, hr2, hb⟩
    refine ⟨_, rfl, ?_⟩
    have n_ := Aside0.mk (HB.out.trans (hb.mono HB.out.size))
    clear HB
    have HB := n_
    clear n_
    have n_ := Aside0.mk (Kd.C_below Cl.out hb)
    clear Cl
    have Cl := n_
    clear n_
    have n_ := Aside0.mk (Kd.C_below Cx.out hb)
    clear Cx
    have Cx := n_
    clear n_
    have n_ := Aside0.mk (Kd.C_below Cy.out hb)
    clear Cy
    have Cy := n_
    clear n_
    have n_ := Aside0.mk ((hb.block _ (blk_lt Kx.out)).trans Kx.out)
    clear Kx
    have Kx := n_
    clear n_
    have n_ := Aside0.mk ((hb.block _ (blk_lt Ky.out)).trans Ky.out)
    clear Ky
    have Ky := n_
    clear n_
    have n_ := Aside0.mk (Kd.C_below Cm.out hb)
    clear Cm
    have Cm := n_
    clear n_
    have n_ := Aside0.mk (Kd.C_below Cs.out hb)
    clear Cs
    have Cs := n_
    clear n_
    have n_ := Aside0.mk (Kd.C_below Cd.out hb)
    clear Cd
    have Cd := n_
    clear n_
    have n_ := Aside0.mk (Kd.C_below Cr.out hb)
    clear Cr
    have Cr := n_
    clear n_
    have Ce := Aside0.mk hr
    have Le := Aside0.mk hd
    have Cf := Aside0.mk hr2
    have Lf := Aside0.mk hd2
    clear hd hr hd2 hr2 hb
    have hsp := due_split l now
    generalize dueD l now = D at Cd Ld Ce Le hsp ⊢
    generalize dueR l now = R at Cr Lr Cf Lf hsp ⊢
    have HDR := Aside0.mk (show D.length < 1000000 ∧ R.length < 1000000 from by have := HS.out; omega)
    clear hsp
    obtain ⟨fa, fr, fok, hfq⟩ : ∃ fa fr fok, firstR l = (fa, fr, fok) := ⟨_, _, _, rfl⟩
    have HFQ := Aside0.mk hfq
    clear hfq
    go_wp2_with ((with_reducible refine gate_dst (N := 56) rfl ?_); refine Aside0.out (p := _) ?_)
    refine Aside0.mk ?_
    refine goesL_ (some 56) rfl rfl Try.func13 (by kernel_rfl) rfl #[.slice Am l.length cm] rfl (by (try simp only [List.map_toArray, List.map_cons, List.map_nil, List.append_toArray, List.cons_append, List.nil_append]); first | done | rfl) ?_
    refine (firstC _ Am cm l Cm.out Lm.out HBL.out fa fr fok HFQ.out).mono ?_
    rintro e w6 ⟨Aa, ca, Aq, cq, rfl, hd, hd2, hr, hr2, hb⟩
    refine ⟨_, rfl, ?_⟩
    have n_ := Aside0.mk (HB.out.trans (hb.mono HB.out.size))
    clear HB
    have HB := n_
    clear n_
    have n_ := Aside0.mk (Kd.C_below Cl.out hb)
    clear Cl
    have Cl := n_
    clear n_
    have n_ := Aside0.mk (Kd.C_below Cx.out hb)
    clear Cx
    have Cx := n_
    clear n_
    have n_ := Aside0.mk (Kd.C_below Cy.out hb)
    clear Cy
    have Cy := n_
    clear n_
    have n_ := Aside0.mk ((hb.block _ (blk_lt Kx.out)).trans Kx.out)
    clear Kx
    have Kx := n_
    clear n_
    have n_ := Aside0.mk ((hb.block _ (blk_lt Ky.out)).trans Ky.out)
    clear Ky
    have Ky := n_
    clear n_
    have n_ := Aside0.mk (Kd.C_below Cm.out hb)
    clear Cm
    have Cm := n_
    clear n_
    have n_ := Aside0.mk (Kd.C_below Cs.out hb)
    clear Cs
    have Cs := n_
    clear n_
    have n_ := Aside0.mk (Kd.C_below Cd.out hb)
    clear Cd
    have Cd := n_
    clear n_
    have n_ := Aside0.mk (Kd.C_below Cr.out hb)
    clear Cr
    have Cr := n_
    clear n_
    have n_ := Aside0.mk (Kd.C_below Ce.out hb)
    clear Ce
    have Ce := n_
    clear n_
    have n_ := Aside0.mk (Kd.C_below Cf.out hb)
    clear Cf
    have Cf := n_
    clear n_
    have Ca := Aside0.mk hr
    have La := Aside0.mk hd
    have Cq := Aside0.mk hr2
    have Lq := Aside0.mk hd2
    clear hd hr hd2 hr2 hb
    go_wp2_with ((with_reducible refine gate_dst (N := 15) rfl ?_); refine Aside0.out (p := _) ?_)
    refine Aside0.mk ?_
    refine box_event (by rfl) (N := 15) rfl (cs := #[.int .i64 0, .int .i64 0, .int .i64 0, .slice none 0 0]) (t := 25) ?hr ?_
    case hr => first | (go_simp; done) | (go_simp; rfl)
    intro bf hbf u3 kf hb
    have HBF := Aside0.mk (Nat.le_of_eq hbf.symm)
    clear hbf
    have KF := Aside0.mk kf
    have HUB := Aside0.mk hb
    clear kf hb
    have f0 : u3.frozen? ⟨bf, 0, none⟩ = false := blk_frozen KF.out 0
    have f1 : u3.frozen? ⟨bf, 1, none⟩ = false := blk_frozen KF.out 1
    have f2 : u3.frozen? ⟨bf, 2, none⟩ = false := blk_frozen KF.out 2
    have f3 : u3.frozen? ⟨bf, 3, none⟩ = false := blk_frozen KF.out 3
    go_wp2_with ((with_reducible refine gate_store (t := 25) (p := 15) rfl ?_); refine Aside0.out (p := _) ?_)
    refine Aside0.mk ?_
    clear f0 f1 f2 f3
    have i25 : (Try.prog.info? 25).map (·.size) = some 4 := by kernel_rfl
    have hst := run_store_run (P := Try.prog) (w := u3) (o := 0) 25 (.agg #[.int .i64 fa.f0, .int .i64 fa.f1, .int .i64 fa.f2, .slice Aa fa.f3.length ca]) [.int .i64 fa.f0, .int .i64 fa.f1, .int .i64 fa.f2, .slice Aa fa.f3.length ca] KF.out rfl i25 (by simp) (by
      intro q hq
      simp only [List.mem_cons, List.not_mem_nil, or_false] at hq
      rcases hq with rfl | rfl | rfl | rfl <;> rfl)
    refine store_event rfl rfl rfl (w1 := u3.setCells bf 0 [.int .i64 fa.f0, .int .i64 fa.f1, .int .i64 fa.f2, .slice Aa fa.f3.length ca]) (Qp.run_store hst rfl rfl rfl) ?_
    intro u4 hw4
    have s4 : u4 = (((u3.setCell ⟨bf, 0, none⟩ (.int .i64 fa.f0)).setCell ⟨bf, 1, none⟩ (.int .i64 fa.f1)).setCell ⟨bf, 2, none⟩ (.int .i64 fa.f2)).setCell ⟨bf, 3, none⟩ (.slice Aa fa.f3.length ca) := hw4
    have hk4 : u4.heap[bf]? = some (.cells #[.int .i64 fa.f0, .int .i64 fa.f1, .int .i64 fa.f2, .slice Aa fa.f3.length ca] 25 (0, 0)) := by rw [s4]; exact blk_set (blk_set (blk_set (blk_set KF.out 0 _) 1 _) 2 _) 3 _
    have hb : Below w6.heap.size w6 u4 := by rw [s4]; exact (((HUB.out.setCell HBF.out _).setCell HBF.out _).setCell HBF.out _).setCell HBF.out _
    have Kf := Aside0.mk hk4
    clear i25 hst hw4 s4 hk4 KF HUB HBF
    have n_ := Aside0.mk (HB.out.trans (hb.mono HB.out.size))
    clear HB
    have HB := n_
    clear n_
    have n_ := Aside0.mk (Kd.C_below Cl.out hb)
    clear Cl
    have Cl := n_
    clear n_
    have n_ := Aside0.mk (Kd.C_below Cx.out hb)
    clear Cx
    have Cx := n_
    clear n_
    have n_ := Aside0.mk (Kd.C_below Cy.out hb)
    clear Cy
    have Cy := n_
    clear n_
    have n_ := Aside0.mk ((hb.block _ (blk_lt Kx.out)).trans Kx.out)
    clear Kx
    have Kx := n_
    clear n_
    have n_ := Aside0.mk ((hb.block _ (blk_lt Ky.out)).trans Ky.out)
    clear Ky
    have Ky := n_
    clear n_
    have n_ := Aside0.mk (Kd.C_below Cm.out hb)
    clear Cm
    have Cm := n_
    clear n_
    have n_ := Aside0.mk (Kd.C_below Cs.out hb)
    clear Cs
    have Cs := n_
    clear n_
    have n_ := Aside0.mk (Kd.C_below Cd.out hb)
    clear Cd
    have Cd := n_
    clear n_
    have n_ := Aside0.mk (Kd.C_below Cr.out hb)
    clear Cr
    have Cr := n_
    clear n_
    have n_ := Aside0.mk (Kd.C_below Ce.out hb)
    clear Ce
    have Ce := n_
    clear n_
    have n_ := Aside0.mk (Kd.C_below Cf.out hb)
    clear Cf
    have Cf := n_
    clear n_
    have n_ := Aside0.mk (Kd.C_below Ca.out hb)
    clear Ca
    have Ca := n_
    clear n_
    have n_ := Aside0.mk (Kd.C_below Cq.out hb)
    clear Cq
    have Cq := n_
    clear n_
    clear hb
    obtain ⟨nx, nb, hnx, hnb⟩ : ∃ nx nb, (firstT (Hp.srt ltL l)).1 = nx ∧ (firstT (Hp.srt ltL l)).2.2.2.2.2 = nb := ⟨_, _, rfl, rfl⟩
    have HNX := Aside0.mk (And.intro hnx hnb)
    clear hnx hnb
    go_wp2_with ((with_reducible refine gate_dst (N := 62) rfl ?_); refine Aside0.out (p := _) ?_)
    refine Aside0.mk ?_
    refine goesL_ (some 62) rfl rfl Try.func14 (by kernel_rfl) rfl #[.slice Am l.length cm] rfl (by (try simp only [List.map_toArray, List.map_cons, List.map_nil, List.append_toArray, List.cons_append, List.nil_append]); first | done | rfl) ?_
    refine (nextD _ Am cm l Cm.out Lm.out HBL.out nx nb HNX.out.1 HNX.out.2).mono ?_
    rintro e w7 ⟨rfl, hb⟩
    refine ⟨_, rfl, ?_⟩
    have n_ := Aside0.mk (HB.out.trans (hb.mono HB.out.size))
    clear HB
    have HB := n_
    clear n_
    have n_ := Aside0.mk (Kd.C_below Cl.out hb)
    clear Cl
    have Cl := n_
    clear n_
    have n_ := Aside0.mk (Kd.C_below Cx.out hb)
    clear Cx
    have Cx := n_
    clear n_
    have n_ := Aside0.mk (Kd.C_below Cy.out hb)
    clear Cy
    have Cy := n_
    clear n_
    have n_ := Aside0.mk ((hb.block _ (blk_lt Kx.out)).trans Kx.out)
    clear Kx
    have Kx := n_
    clear n_
    have n_ := Aside0.mk ((hb.block _ (blk_lt Ky.out)).trans Ky.out)
    clear Ky
    have Ky := n_
    clear n_
    have n_ := Aside0.mk (Kd.C_below Cm.out hb)
    clear Cm
    have Cm := n_
    clear n_
    have n_ := Aside0.mk (Kd.C_below Cs.out hb)
    clear Cs
    have Cs := n_
    clear n_
    have n_ := Aside0.mk (Kd.C_below Cd.out hb)
    clear Cd
    have Cd := n_
    clear n_
    have n_ := Aside0.mk (Kd.C_below Cr.out hb)
    clear Cr
    have Cr := n_
    clear n_
    have n_ := Aside0.mk (Kd.C_below Ce.out hb)
    clear Ce
    have Ce := n_
    clear n_
    have n_ := Aside0.mk (Kd.C_below Cf.out hb)
    clear Cf
    have Cf := n_
    clear n_
    have n_ := Aside0.mk (Kd.C_below Ca.out hb)
    clear Ca
    have Ca := n_
    clear n_
    have n_ := Aside0.mk (Kd.C_below Cq.out hb)
    clear Cq
    have Cq := n_
    clear n_
    have n_ := Aside0.mk ((hb.block _ (blk_lt Kf.out)).trans Kf.out)
    clear Kf
    have Kf := n_
    clear n_
    clear hb
    have HA : Aside0 (At2 w w7 Al Am As Ad Ar Ae Af Ax Ay Aa Aq cx cy ca l s D R fr x y fa bx by_ bf) := ⟨⟨HB.out, Cl.out, Cm.out, Cs.out, Cd.out, Cr.out, Ce.out, Cf.out, Cq.out, Cx.out, HL.out.2.1, Kx.out, Cy.out, HL.out.2.2, Ky.out, Ca.out, La.out, Kf.out⟩⟩
    clear HB Cl Cm Cs Cd Cr Ce Cf Cq Cx Kx Cy Ky Ca Kf
    go_upto_region 11 with fail
    go_cut [110] (fun v110 wc => v110 = .bool false ∧ Aside0 (At2 w wc Al Am As Ad Ar Ae Af Ax Ay Aa Aq cx cy ca l s D R fr x y fa bx by_ bf))
    case first =>
      refine start_ (n := 46) (S := fun w' => w'.heap[bx]? = some (.cells #[.int .i64 x.f0, .int .i64 x.f1, .int .i64 x.f2, .slice Ax x.f3.length cx] 25 (0, 0)) ∧ w'.heap[by_]? = some (.cells #[.int .i64 y.f0, .int .i64 y.f1, .int .i64 y.f2, .slice Ay y.f3.length cy] 25 (0, 0))) (ds := []) (fl 46 0) (by kernel_rfl) rfl (by kernel_rfl) ⟨HA.out.kx, HA.out.ky⟩ (fun hHeld => ?_)
      refine with_tabW qr_tab qr_bits (fun HT_ HW_ => ?_)
      have n_ := Aside0.mk (HA.out.step (below_drew (Below.refl _ _)))
      clear HA
      have HA := n_
      clear n_
      generalize w7.drew = wd at HA hHeld ⊢
      have HSL := Aside0.mk (show s.length < 1099511627776 from by rw [HSS.out, (Hp.srt_perm l).length_eq]; have := HS.out; omega)
      have HB := Aside0.mk (Below.refl wd.heap.size wd)
      refine take_ (i := 0) (N := some 65) (v := ?_) (a' := ?_) (fl 46 1) rfl rfl (take_ofW HT_.out HW_.out (by kernel_rfl)) (fun _ _ _ h => by first | exact h | cases h.1) (Or.inl ⟨by rfl, ?_⟩) hHeld ?_ ?_
      rotate_left
      · rintro w' ⟨s0, s1⟩
        have qx0 : w'.cell? ⟨bx, 0, none⟩ = some (.int .i64 x.f0) := blk_cell s0 0
        have qx1 : w'.cell? ⟨bx, 1, none⟩ = some (.int .i64 x.f1) := blk_cell s0 1
        have qx2 : w'.cell? ⟨bx, 2, none⟩ = some (.int .i64 x.f2) := blk_cell s0 2
        have qx3 : w'.cell? ⟨bx, 3, none⟩ = some (.slice Ax x.f3.length cx) := blk_cell s0 3
        go_simp
        with_reducible rfl
      rotate_left
      · simp only [Act.put, List.setIfInBounds_toArray, List.set_cons_zero, List.set_cons_succ]
        rfl
      refine take_ (i := 1) (N := some 66) (v := ?_) (a' := ?_) (fl 46 3) rfl rfl (take_ofW HT_.out HW_.out (by kernel_rfl)) (fun _ _ _ h => by first | exact h | cases h.1) (Or.inl ⟨by rfl, ?_⟩) hHeld ?_ ?_
      rotate_left
      · rintro w' ⟨s0, s1⟩
        have qy0 : w'.cell? ⟨by_, 0, none⟩ = some (.int .i64 y.f0) := blk_cell s1 0
        have qy1 : w'.cell? ⟨by_, 1, none⟩ = some (.int .i64 y.f1) := blk_cell s1 1
        have qy2 : w'.cell? ⟨by_, 2, none⟩ = some (.int .i64 y.f2) := blk_cell s1 2
        have qy3 : w'.cell? ⟨by_, 3, none⟩ = some (.slice Ay y.f3.length cy) := blk_cell s1 3
        go_simp
        with_reducible rfl
      rotate_left
      · simp only [Act.put, List.setIfInBounds_toArray, List.set_cons_zero, List.set_cons_succ]
        rfl
      refine take_ (i := 3) (N := some 68) (v := ?_) (a' := ?_) (fl 46 11) rfl rfl (take_ofW HT_.out HW_.out (by kernel_rfl)) (fun _ _ _ h => by first | exact h | cases h.1) (Or.inl ⟨by rfl, ?_⟩) hHeld ?_ ?_
      rotate_left
      · rintro w' ⟨s0, s1⟩
        have qx0 : w'.cell? ⟨bx, 0, none⟩ = some (.int .i64 x.f0) := blk_cell s0 0
        have qx1 : w'.cell? ⟨bx, 1, none⟩ = some (.int .i64 x.f1) := blk_cell s0 1
        have qx2 : w'.cell? ⟨bx, 2, none⟩ = some (.int .i64 x.f2) := blk_cell s0 2
        have qx3 : w'.cell? ⟨bx, 3, none⟩ = some (.slice Ax x.f3.length cx) := blk_cell s0 3
        go_simp
        with_reducible rfl
      rotate_left
      · simp only [Act.put, List.setIfInBounds_toArray, List.set_cons_zero, List.set_cons_succ]
        rfl
      refine take_ (i := 4) (N := some 69) (v := ?_) (a' := ?_) (fl 46 27) rfl rfl (take_ofW HT_.out HW_.out (by kernel_rfl)) (fun _ _ _ h => by first | exact h | cases h.1) (Or.inl ⟨by rfl, ?_⟩) hHeld ?_ ?_
      rotate_left
      · rintro w' ⟨s0, s1⟩
        have qy0 : w'.cell? ⟨by_, 0, none⟩ = some (.int .i64 y.f0) := blk_cell s1 0
        have qy1 : w'.cell? ⟨by_, 1, none⟩ = some (.int .i64 y.f1) := blk_cell s1 1
        have qy2 : w'.cell? ⟨by_, 2, none⟩ = some (.int .i64 y.f2) := blk_cell s1 2
        have qy3 : w'.cell? ⟨by_, 3, none⟩ = some (.slice Ay y.f3.length cy) := blk_cell s1 3
        go_simp
        with_reducible rfl
      rotate_left
      · simp only [Act.put, List.setIfInBounds_toArray, List.set_cons_zero, List.set_cons_succ]
        rfl
      refine one_ (i := 2) (N := some 67) (fl 46 31) rfl rfl (one_of HT_.out (by kernel_rfl)) (by decide) (fun K hK => ?_)
      refine goes_ Try.func15 (by kernel_rfl) rfl #[.agg #[.int .i64 x.f0, .int .i64 x.f1, .int .i64 x.f2, .slice Ax x.f3.length cx], .agg #[.int .i64 y.f0, .int .i64 y.f1, .int .i64 y.f2, .slice Ay y.f3.length cy]] (by rfl) rfl rfl (by (try simp only [List.map_toArray, List.map_cons, List.map_nil, List.append_toArray, List.cons_append, List.nil_append]); first | done | rfl) ?_
      refine (less.calls _ x y Ax cx Ay cy (HA.out.step HB.out).gx HA.out.hx (HA.out.step HB.out).gy HA.out.hy).mono ?_
      rintro e w8 ⟨rfl, hb⟩
      have n_ := Aside0.mk (HB.out.trans (hb.mono HB.out.size))
      clear HB
      have HB := n_
      clear n_
      clear hb
      refine ⟨_, rfl, ?_⟩
      refine hK.out _ _ ⟨(HA.out.step HB.out).kx, (HA.out.step HB.out).ky⟩ (fun hHeld => ?_)
      clear hK K
      refine norm_ (a' := ?_) ?_ ?_
      rotate_left
      · show Act.put _ (some 67) _ = _
        simp only [Act.put, List.setIfInBounds_toArray, List.set_cons_zero, List.set_cons_succ]
        rfl
      refine one_ (i := 5) (N := some 70) (fl 46 63) rfl rfl (one_of HT_.out (by kernel_rfl)) (by decide) (fun K hK => ?_)
      refine goes_ Try.func16 (by kernel_rfl) rfl #[.agg #[.int .i64 x.f0, .int .i64 x.f1, .int .i64 x.f2, .slice Ax x.f3.length cx], .agg #[.int .i64 y.f0, .int .i64 y.f1, .int .i64 y.f2, .slice Ay y.f3.length cy]] (by rfl) rfl rfl (by (try simp only [List.map_toArray, List.map_cons, List.map_nil, List.append_toArray, List.cons_append, List.nil_append]); first | done | rfl) ?_
      refine (refLessC _ x y Ax cx Ay cy (HA.out.step HB.out).gx HA.out.hx (HA.out.step HB.out).gy HA.out.hy).mono ?_
      rintro e w9 ⟨rfl, hb⟩
      have n_ := Aside0.mk (HB.out.trans (hb.mono HB.out.size))
      clear HB
      have HB := n_
      clear n_
      clear hb
      refine ⟨_, rfl, ?_⟩
      refine hK.out _ _ ⟨(HA.out.step HB.out).kx, (HA.out.step HB.out).ky⟩ (fun hHeld => ?_)
      clear hK K
      refine norm_ (a' := ?_) ?_ ?_
      rotate_left
      · show Act.put _ (some 70) _ = _
        simp only [Act.put, List.setIfInBounds_toArray, List.set_cons_zero, List.set_cons_succ]
        rfl
      refine pure_ (i := 6) (N := some 71) (v := .bool false) (a' := ?_) (fl 46 127) rfl rfl (any_of HT_.out (by kernel_rfl)) (fun _ _ _ h => by first | exact h | cases h.1) (Or.inl ⟨by rfl, ?_⟩) ?_ ?_
      · intro w'
        go_simp
      rotate_left
      · simp only [Act.put, List.setIfInBounds_toArray, List.set_cons_zero, List.set_cons_succ]
        rfl
      refine pure_ (i := 7) (N := some 72) (v := ?_) (a' := ?_) (fl 46 255) rfl rfl (any_of HT_.out (by kernel_rfl)) (fun _ _ _ h => by first | exact h | cases h.1) (Or.inl ⟨by rfl, ?_⟩) ?_ ?_
      rotate_left
      · intro w'
        go_simp
        with_reducible rfl
      rotate_left
      · simp only [Act.put, List.setIfInBounds_toArray, List.set_cons_zero, List.set_cons_succ]
        rfl
      refine pure_ (i := 8) (N := some 73) (v := ?_) (a' := ?_) (fl 46 511) rfl rfl (any_of HT_.out (by kernel_rfl)) (fun _ _ _ h => by first | exact h | cases h.1) (Or.inl ⟨by rfl, ?_⟩) ?_ ?_
      rotate_left
      · intro w'
        go_simp
        with_reducible rfl
      rotate_left
      · simp only [Act.put, List.setIfInBounds_toArray, List.set_cons_zero, List.set_cons_succ]
        rfl
      refine pure_ (i := 10) (N := some 75) (v := ?_) (a' := ?_) (fl 46 1535) rfl rfl (any_of HT_.out (by kernel_rfl)) (fun _ _ _ h => by first | exact h | cases h.1) (Or.inl ⟨by rfl, ?_⟩) ?_ ?_
      rotate_left
      · intro w'
        go_simp
        with_reducible rfl
      rotate_left
      · simp only [Act.put, List.setIfInBounds_toArray, List.set_cons_zero, List.set_cons_succ]
        rfl
      refine one_ (i := 9) (N := some 74) (fl 46 2047) rfl rfl (one_of HT_.out (by kernel_rfl)) (by decide) (fun K hK => ?_)
      refine goes_ Try.func18 (by kernel_rfl) rfl #[.slice Am l.length cm] (by rfl) rfl rfl (by (try simp only [List.map_toArray, List.map_cons, List.map_nil, List.append_toArray, List.cons_append, List.nil_append]); first | done | rfl) ?_
      refine (sortC _ Am cm l (HA.out.step HB.out).rm Lm.out HBL.out).mono ?_
      rintro e w10 ⟨At, ct, rfl, hd, hr, hb⟩
      rw [← HSS.out] at hd hr ⊢
      have CT := Aside0.mk hr
      have LT := Aside0.mk hd
      clear hr hd
      have n_ := Aside0.mk (HB.out.trans (hb.mono HB.out.size))
      clear HB
      have HB := n_
      clear n_
      clear hb
      refine ⟨_, rfl, ?_⟩
      refine hK.out _ _ ⟨(HA.out.step HB.out).kx, (HA.out.step HB.out).ky⟩ (fun hHeld => ?_)
      clear hK K
      refine norm_ (a' := ?_) ?_ ?_
      rotate_left
      · show Act.put _ (some 74) _ = _
        simp only [Act.put, List.setIfInBounds_toArray, List.set_cons_zero, List.set_cons_succ]
        rfl
      refine one_ (i := 11) (N := some 76) (fl 46 4095) rfl rfl (one_of HT_.out (by kernel_rfl)) (by decide) (fun K hK => ?_)
      refine goes_ Try.func17 (by kernel_rfl) rfl #[.slice At s.length ct, .slice As s.length cs] (by rfl) rfl rfl (by (try simp only [List.map_toArray, List.map_cons, List.map_nil, List.append_toArray, List.cons_append, List.nil_append]); first | done | rfl) ?_
      refine (sameC _ At ct As cs s CT.out LT.out (HA.out.step HB.out).rs Ls.out HSL.out).mono ?_
      rintro e w11 ⟨rfl, hb⟩
      have n_ := Aside0.mk (HB.out.trans (hb.mono HB.out.size))
      clear HB
      have HB := n_
      clear n_
      clear hb
      refine ⟨_, rfl, ?_⟩
      refine hK.out _ _ ⟨(HA.out.step HB.out).kx, (HA.out.step HB.out).ky⟩ (fun hHeld => ?_)
      clear hK K
      refine norm_ (a' := ?_) ?_ ?_
      rotate_left
      · show Act.put _ (some 76) _ = _
        simp only [Act.put, List.setIfInBounds_toArray, List.set_cons_zero, List.set_cons_succ]
        rfl
      clear CT LT
      refine pure_ (i := 12) (N := some 77) (v := ?_) (a' := ?_) (fl 46 8191) rfl rfl (any_of HT_.out (by kernel_rfl)) (fun _ _ _ h => by first | exact h | cases h.1) (Or.inl ⟨by rfl, ?_⟩) ?_ ?_
      rotate_left
      · intro w'
        go_simp
        with_reducible rfl
      rotate_left
      · simp only [Act.put, List.setIfInBounds_toArray, List.set_cons_zero, List.set_cons_succ]
        rfl
      refine pure_ (i := 13) (N := some 78) (v := ?_) (a' := ?_) (fl 46 16383) rfl rfl (any_of HT_.out (by kernel_rfl)) (fun _ _ _ h => by first | exact h | cases h.1) (Or.inl ⟨by rfl, ?_⟩) ?_ ?_
      rotate_left
      · intro w'
        go_simp
        with_reducible rfl
      rotate_left
      · simp only [Act.put, List.setIfInBounds_toArray, List.set_cons_zero, List.set_cons_succ]
        rfl
      refine pure_ (i := 14) (N := some 79) (v := ?_) (a' := ?_) (fl 46 32767) rfl rfl (any_of HT_.out (by kernel_rfl)) (fun _ _ _ h => by first | exact h | cases h.1) (Or.inl ⟨by rfl, ?_⟩) ?_ ?_
      rotate_left
      · intro w'
        go_simp
        with_reducible rfl
      rotate_left
      · simp only [Act.put, List.setIfInBounds_toArray, List.set_cons_zero, List.set_cons_succ]
        rfl
      refine pure_ (i := 15) (N := some 80) (v := ?_) (a' := ?_) (fl 46 65535) rfl rfl (any_of HT_.out (by kernel_rfl)) (fun _ _ _ h => by first | exact h | cases h.1) (Or.inl ⟨by rfl, ?_⟩) ?_ ?_
      rotate_left
      · intro w'
        go_simp
        with_reducible rfl
      rotate_left
      · simp only [Act.put, List.setIfInBounds_toArray, List.set_cons_zero, List.set_cons_succ]
        rfl
      refine take_ (i := 16) (N := some 81) (v := ?_) (a' := ?_) (fl 46 131071) rfl rfl (take_ofW HT_.out HW_.out (by kernel_rfl)) (fun _ _ _ h => by first | exact h | cases h.1) (Or.inl ⟨by rfl, ?_⟩) hHeld ?_ ?_
      rotate_left
      · rintro w' ⟨s0, s1⟩
        have qx0 : w'.cell? ⟨bx, 0, none⟩ = some (.int .i64 x.f0) := blk_cell s0 0
        have qx1 : w'.cell? ⟨bx, 1, none⟩ = some (.int .i64 x.f1) := blk_cell s0 1
        have qx2 : w'.cell? ⟨bx, 2, none⟩ = some (.int .i64 x.f2) := blk_cell s0 2
        have qx3 : w'.cell? ⟨bx, 3, none⟩ = some (.slice Ax x.f3.length cx) := blk_cell s0 3
        go_simp
        with_reducible rfl
      rotate_left
      · simp only [Act.put, List.setIfInBounds_toArray, List.set_cons_zero, List.set_cons_succ]
        rfl
      refine pure_ (i := 19) (N := some 84) (v := ?_) (a' := ?_) (fl 46 655359) rfl rfl (any_of HT_.out (by kernel_rfl)) (fun _ _ _ h => by first | exact h | cases h.1) (Or.inl ⟨by rfl, ?_⟩) ?_ ?_
      rotate_left
      · intro w'
        go_simp
        with_reducible rfl
      rotate_left
      · simp only [Act.put, List.setIfInBounds_toArray, List.set_cons_zero, List.set_cons_succ]
        rfl
      refine take_ (i := 21) (N := some 86) (v := ?_) (a' := ?_) (fl 46 2752511) rfl rfl (take_ofW HT_.out HW_.out (by kernel_rfl)) (fun _ _ _ h => by first | exact h | cases h.1) (Or.inl ⟨by rfl, ?_⟩) hHeld ?_ ?_
      rotate_left
      · rintro w' ⟨s0, s1⟩
        have qx0 : w'.cell? ⟨bx, 0, none⟩ = some (.int .i64 x.f0) := blk_cell s0 0
        have qx1 : w'.cell? ⟨bx, 1, none⟩ = some (.int .i64 x.f1) := blk_cell s0 1
        have qx2 : w'.cell? ⟨bx, 2, none⟩ = some (.int .i64 x.f2) := blk_cell s0 2
        have qx3 : w'.cell? ⟨bx, 3, none⟩ = some (.slice Ax x.f3.length cx) := blk_cell s0 3
        go_simp
        with_reducible rfl
      rotate_left
      · simp only [Act.put, List.setIfInBounds_toArray, List.set_cons_zero, List.set_cons_succ]
        rfl
      have hxg : ∀ u ∈ x :: l, good u := fun u hu => by
        rcases List.mem_cons.mp hu with h | h
        · rw [h]; exact HG.out.2
        · exact HG.out.1 u h
      have HXL := Aside0.mk (show bndB (x :: l) = true from bndB_iff.mpr ⟨by rw [List.length_cons]; have := HS.out; omega, hxg⟩)
      have HSP := Aside0.mk (srt_same hxg (List.perm_append_singleton x l).symm)
      clear hxg
      obtain ⟨tx, htx⟩ : ∃ tx, tx = Hp.srt ltL (x :: l) := ⟨_, rfl⟩
      rw [← htx] at HSP
      have HTX := Aside0.mk htx
      clear htx
      refine join_ (σ := Value × Value × Value × Value) 23 (fl 46 8388607) (fun s => [(82, s.1), (83, s.2.1), (85, s.2.2.1), (87, s.2.2.2)]) (fun s w' => ∃ Ap cp A85 c85 A87 c87, s.1 = .slice Ap tx.length cp ∧ s.2.2.1 = .slice A85 l.length c85 ∧ s.2.2.2 = .slice A87 [x].length c87 ∧ Kd.V k25 25 w' wd.heap.size (fun k => True ∧ some k ≠ (.slice A85 l.length c85 : Value).ownBlock) (.slice Ap tx.length cp) tx ∧ Kd.N k25 25 w' wd.heap.size (fun _ => True) (.slice A85 l.length c85) l ∧ Kd.N k25 25 w' wd.heap.size (fun k => True ∧ some k ≠ (.slice A85 l.length c85 : Value).ownBlock) (.slice A87 [x].length c87) [x] ∧ Below wd.heap.size wd w') ?_ ?_
      · rintro ⟨v82, v83, v85, v87⟩ w37 ⟨Ap, cp, A85, c85, A87, c87, rfl, rfl, rfl, hv, hn, hm, hb⟩
        clear HB hHeld
        have F82 := Aside0.mk hv
        have F83 := Aside0.mk hn
        have F87 := Aside0.mk hm
        have HB := Aside0.mk hb
        have hHeld := (show (w37.heap[bx]? = some (.cells #[.int .i64 x.f0, .int .i64 x.f1, .int .i64 x.f2, .slice Ax x.f3.length cx] 25 (0, 0))) ∧ (w37.heap[by_]? = some (.cells #[.int .i64 y.f0, .int .i64 y.f1, .int .i64 y.f2, .slice Ay y.f3.length cy] 25 (0, 0))) from ⟨(HA.out.step HB.out).kx, (HA.out.step HB.out).ky⟩)
        clear hv hn hm hb
        refine norm_ (a' := ?_) ?_ ?_
        rotate_left
        · show putAll _ _ = _
          simp only [putAll, Act.put, List.setIfInBounds_toArray, List.set_cons_zero, List.set_cons_succ]
          rfl
        refine one_ (i := 23) (N := some 88) (fl 46 16777215) rfl rfl (one_of HT_.out (by kernel_rfl)) (by decide) (fun K hK => ?_)
        refine Kd.N_append_rows_step k25 (w0 := wd) wd.heap.size (by rfl) (.tmp 85) (.tmp 87) 22 25 (.agg #[(.int .i64 0), (.int .i64 0), (.int .i64 0), (.slice none 0 0)]) 48 rfl Try.underlying22 info25 rfl (by decide) (by omega) _ _ [x] A87 1 c87 (fun _ => True) (fun k => True ∧ some k ≠ (.slice A85 l.length c85 : Value).ownBlock) rfl rfl F83.out (Kd.V_F (Kd.N_V (base' := wd.heap.size) F87.out)) (fun k hk => hk) (fun _ _ => trivial) HB.out HB.out.size (by have := HS.out; omega) ?_
        intro v w38 hn hB hg hat
        have C82 := Aside0.mk (Kd.V_reads' (Kd.V_afterv F82.out hg hat))
        generalize hlx : l ++ [x] = lx at hn
        have HLX := Aside0.mk hlx
        clear hlx
        obtain ⟨A88, c88, rfl⟩ := Kd.N_slice hn
        have C88 := Aside0.mk (Kd.N_reads' hn)
        have n_ := Aside0.mk hB
        clear HB
        have HB := n_
        clear n_ hn hB hg hat F82 F83 F87
        refine hK.out _ _ ⟨(HA.out.step HB.out).kx, (HA.out.step HB.out).ky⟩ (fun hHeld => ?_)
        clear hK K
        refine norm_ (a' := ?_) ?_ ?_
        rotate_left
        · show Act.put _ (some 88) _ = _
          simp only [Act.put, List.setIfInBounds_toArray, List.set_cons_zero, List.set_cons_succ]
          rfl
        refine one_ (i := 24) (N := some 89) (fl 46 33554431) rfl rfl (one_of HT_.out (by kernel_rfl)) (by decide) (fun K hK => ?_)
        refine goes_ Try.func10 (by kernel_rfl) rfl #[.slice A88 lx.length c88] (by rfl) rfl rfl (by (try simp only [List.map_toArray, List.map_cons, List.map_nil, List.append_toArray, List.cons_append, List.nil_append]); first | done | rfl) ?_
        refine (refSortC _ A88 c88 lx C88.out.2.2 C88.out.2.1 (by rw [← HLX.out, List.length_append, List.length_singleton]; have := HS.out; omega)).mono ?_
        rintro e w39 ⟨A89, c89, rfl, hd, hr, hb⟩
        rw [← HLX.out, ← HSP.out] at hd hr ⊢
        have C89 := Aside0.mk hr
        have L89 := Aside0.mk hd
        have D82 := Aside0.mk (Kd.C_below C82.out.2.2 hb)
        clear hr hd
        have n_ := Aside0.mk (HB.out.trans (hb.mono HB.out.size))
        clear HB
        have HB := n_
        clear n_
        clear hb
        refine ⟨_, rfl, ?_⟩
        refine hK.out _ _ ⟨(HA.out.step HB.out).kx, (HA.out.step HB.out).ky⟩ (fun hHeld => ?_)
        clear hK K
        refine norm_ (a' := ?_) ?_ ?_
        rotate_left
        · show Act.put _ (some 89) _ = _
          simp only [Act.put, List.setIfInBounds_toArray, List.set_cons_zero, List.set_cons_succ]
          rfl
        refine one_ (i := 25) (N := some 90) (fl 46 67108863) rfl rfl (one_of HT_.out (by kernel_rfl)) (by decide) (fun K hK => ?_)
        refine goes_ Try.func17 (by kernel_rfl) rfl #[.slice Ap tx.length cp, .slice A89 tx.length c89] (by rfl) rfl rfl (by (try simp only [List.map_toArray, List.map_cons, List.map_nil, List.append_toArray, List.cons_append, List.nil_append]); first | done | rfl) ?_
        refine (sameC _ Ap cp A89 c89 tx D82.out C82.out.2.1 C89.out L89.out (by rw [HTX.out, (Hp.srt_perm _).length_eq, List.length_cons]; have := HS.out; omega)).mono ?_
        rintro e w40 ⟨rfl, hb⟩
        have n_ := Aside0.mk (HB.out.trans (hb.mono HB.out.size))
        clear HB
        have HB := n_
        clear n_
        clear hb
        refine ⟨_, rfl, ?_⟩
        refine hK.out _ _ ⟨(HA.out.step HB.out).kx, (HA.out.step HB.out).ky⟩ (fun hHeld => ?_)
        clear hK K
        refine norm_ (a' := ?_) ?_ ?_
        rotate_left
        · show Act.put _ (some 90) _ = _
          simp only [Act.put, List.setIfInBounds_toArray, List.set_cons_zero, List.set_cons_succ]
          rfl
        clear C82 C88 C89 D82 L89 HLX
        refine pure_ (i := 26) (N := some 91) (v := ?_) (a' := ?_) (fl 46 134217727) rfl rfl (any_of HT_.out (by kernel_rfl)) (fun _ _ _ h => by first | exact h | cases h.1) (Or.inl ⟨by rfl, ?_⟩) ?_ ?_
        rotate_left
        · intro w'
          go_simp
          with_reducible rfl
        rotate_left
        · simp only [Act.put, List.setIfInBounds_toArray, List.set_cons_zero, List.set_cons_succ]
          rfl
        refine pure_ (i := 27) (N := some 92) (v := ?_) (a' := ?_) (fl 46 268435455) rfl rfl (any_of HT_.out (by kernel_rfl)) (fun _ _ _ h => by first | exact h | cases h.1) (Or.inl ⟨by rfl, ?_⟩) ?_ ?_
        rotate_left
        · intro w'
          go_simp
          with_reducible rfl
        rotate_left
        · simp only [Act.put, List.setIfInBounds_toArray, List.set_cons_zero, List.set_cons_succ]
          rfl
        refine pure_ (i := 28) (N := some 93) (v := ?_) (a' := ?_) (fl 46 536870911) rfl rfl (any_of HT_.out (by kernel_rfl)) (fun _ _ _ h => by first | exact h | cases h.1) (Or.inl ⟨by rfl, ?_⟩) ?_ ?_
        rotate_left
        · intro w'
          go_simp
          with_reducible rfl
        rotate_left
        · simp only [Act.put, List.setIfInBounds_toArray, List.set_cons_zero, List.set_cons_succ]
          rfl
        refine pure_ (i := 29) (N := some 94) (v := ?_) (a' := ?_) (fl 46 1073741823) rfl rfl (any_of HT_.out (by kernel_rfl)) (fun _ _ _ h => by first | exact h | cases h.1) (Or.inl ⟨by rfl, ?_⟩) ?_ ?_
        rotate_left
        · intro w'
          go_simp
          with_reducible rfl
        rotate_left
        · simp only [Act.put, List.setIfInBounds_toArray, List.set_cons_zero, List.set_cons_succ]
          rfl
        refine pure_ (i := 30) (N := some 95) (v := ?_) (a' := ?_) (fl 46 2147483647) rfl rfl (any_of HT_.out (by kernel_rfl)) (fun _ _ _ h => by first | exact h | cases h.1) (Or.inl ⟨by rfl, ?_⟩) ?_ ?_
        rotate_left
        · intro w'
          go_simp
          with_reducible rfl
        rotate_left
        · simp only [Act.put, List.setIfInBounds_toArray, List.set_cons_zero, List.set_cons_succ]
          rfl
        refine one_ (i := 31) (N := some 96) (fl 46 4294967295) rfl rfl (one_of HT_.out (by kernel_rfl)) (by decide) (fun K hK => ?_)
        refine goes_ Try.func17 (by kernel_rfl) rfl #[.slice Ad D.length cd, .slice Ae D.length ce] (by rfl) rfl rfl (by (try simp only [List.map_toArray, List.map_cons, List.map_nil, List.append_toArray, List.cons_append, List.nil_append]); first | done | rfl) ?_
        refine (sameC _ Ad cd Ae ce D (HA.out.step HB.out).rd Ld.out (HA.out.step HB.out).re Le.out (by have := HDR.out; omega)).mono ?_
        rintro e w41 ⟨rfl, hb⟩
        have n_ := Aside0.mk (HB.out.trans (hb.mono HB.out.size))
        clear HB
        have HB := n_
        clear n_
        clear hb
        refine ⟨_, rfl, ?_⟩
        refine hK.out _ _ ⟨(HA.out.step HB.out).kx, (HA.out.step HB.out).ky⟩ (fun hHeld => ?_)
        clear hK K
        refine norm_ (a' := ?_) ?_ ?_
        rotate_left
        · show Act.put _ (some 96) _ = _
          simp only [Act.put, List.setIfInBounds_toArray, List.set_cons_zero, List.set_cons_succ]
          rfl
        refine pure_ (i := 32) (N := some 97) (v := ?_) (a' := ?_) (fl 46 8589934591) rfl rfl (any_of HT_.out (by kernel_rfl)) (fun _ _ _ h => by first | exact h | cases h.1) (Or.inl ⟨by rfl, ?_⟩) ?_ ?_
        rotate_left
        · intro w'
          go_simp
          with_reducible rfl
        rotate_left
        · simp only [Act.put, List.setIfInBounds_toArray, List.set_cons_zero, List.set_cons_succ]
          rfl
        refine pure_ (i := 33) (N := some 98) (v := ?_) (a' := ?_) (fl 46 17179869183) rfl rfl (any_of HT_.out (by kernel_rfl)) (fun _ _ _ h => by first | exact h | cases h.1) (Or.inl ⟨by rfl, ?_⟩) ?_ ?_
        rotate_left
        · intro w'
          go_simp
          with_reducible rfl
        rotate_left
        · simp only [Act.put, List.setIfInBounds_toArray, List.set_cons_zero, List.set_cons_succ]
          rfl
        refine pure_ (i := 34) (N := some 99) (v := ?_) (a' := ?_) (fl 46 34359738367) rfl rfl (any_of HT_.out (by kernel_rfl)) (fun _ _ _ h => by first | exact h | cases h.1) (Or.inl ⟨by rfl, ?_⟩) ?_ ?_
        rotate_left
        · intro w'
          go_simp
          with_reducible rfl
        rotate_left
        · simp only [Act.put, List.setIfInBounds_toArray, List.set_cons_zero, List.set_cons_succ]
          rfl
        refine pure_ (i := 35) (N := some 100) (v := ?_) (a' := ?_) (fl 46 68719476735) rfl rfl (any_of HT_.out (by kernel_rfl)) (fun _ _ _ h => by first | exact h | cases h.1) (Or.inl ⟨by rfl, ?_⟩) ?_ ?_
        rotate_left
        · intro w'
          go_simp
          with_reducible rfl
        rotate_left
        · simp only [Act.put, List.setIfInBounds_toArray, List.set_cons_zero, List.set_cons_succ]
          rfl
        refine pure_ (i := 36) (N := some 101) (v := ?_) (a' := ?_) (fl 46 137438953471) rfl rfl (any_of HT_.out (by kernel_rfl)) (fun _ _ _ h => by first | exact h | cases h.1) (Or.inl ⟨by rfl, ?_⟩) ?_ ?_
        rotate_left
        · intro w'
          go_simp
          with_reducible rfl
        rotate_left
        · simp only [Act.put, List.setIfInBounds_toArray, List.set_cons_zero, List.set_cons_succ]
          rfl
        refine one_ (i := 37) (N := some 102) (fl 46 274877906943) rfl rfl (one_of HT_.out (by kernel_rfl)) (by decide) (fun K hK => ?_)
        refine goes_ Try.func17 (by kernel_rfl) rfl #[.slice Ar R.length cr, .slice Af R.length cf] (by rfl) rfl rfl (by (try simp only [List.map_toArray, List.map_cons, List.map_nil, List.append_toArray, List.cons_append, List.nil_append]); first | done | rfl) ?_
        refine (sameC _ Ar cr Af cf R (HA.out.step HB.out).rr Lr.out (HA.out.step HB.out).rf Lf.out (by have := HDR.out; omega)).mono ?_
        rintro e w42 ⟨rfl, hb⟩
        have n_ := Aside0.mk (HB.out.trans (hb.mono HB.out.size))
        clear HB
        have HB := n_
        clear n_
        clear hb
        refine ⟨_, rfl, ?_⟩
        refine hK.out _ _ ⟨(HA.out.step HB.out).kx, (HA.out.step HB.out).ky⟩ (fun hHeld => ?_)
        clear hK K
        refine norm_ (a' := ?_) ?_ ?_
        rotate_left
        · show Act.put _ (some 102) _ = _
          simp only [Act.put, List.setIfInBounds_toArray, List.set_cons_zero, List.set_cons_succ]
          rfl
        refine pure_ (i := 38) (N := some 103) (v := ?_) (a' := ?_) (fl 46 549755813887) rfl rfl (any_of HT_.out (by kernel_rfl)) (fun _ _ _ h => by first | exact h | cases h.1) (Or.inl ⟨by rfl, ?_⟩) ?_ ?_
        rotate_left
        · intro w'
          go_simp
          with_reducible rfl
        rotate_left
        · simp only [Act.put, List.setIfInBounds_toArray, List.set_cons_zero, List.set_cons_succ]
          rfl
        refine pure_ (i := 39) (N := some 104) (v := ?_) (a' := ?_) (fl 46 1099511627775) rfl rfl (any_of HT_.out (by kernel_rfl)) (fun _ _ _ h => by first | exact h | cases h.1) (Or.inl ⟨by rfl, ?_⟩) ?_ ?_
        rotate_left
        · intro w'
          go_simp
          with_reducible rfl
        rotate_left
        · simp only [Act.put, List.setIfInBounds_toArray, List.set_cons_zero, List.set_cons_succ]
          rfl
        refine pure_ (i := 40) (N := some 105) (v := ?_) (a' := ?_) (fl 46 2199023255551) rfl rfl (any_of HT_.out (by kernel_rfl)) (fun _ _ _ h => by first | exact h | cases h.1) (Or.inl ⟨by rfl, ?_⟩) ?_ ?_
        rotate_left
        · intro w'
          go_simp
          with_reducible rfl
        rotate_left
        · simp only [Act.put, List.setIfInBounds_toArray, List.set_cons_zero, List.set_cons_succ]
          rfl
        refine pure_ (i := 41) (N := some 106) (v := ?_) (a' := ?_) (fl 46 4398046511103) rfl rfl (any_of HT_.out (by kernel_rfl)) (fun _ _ _ h => by first | exact h | cases h.1) (Or.inl ⟨by rfl, ?_⟩) ?_ ?_
        rotate_left
        · intro w'
          go_simp
          with_reducible rfl
        rotate_left
        · simp only [Act.put, List.setIfInBounds_toArray, List.set_cons_zero, List.set_cons_succ]
          rfl
        refine pure_ (i := 42) (N := some 107) (v := ?_) (a' := ?_) (fl 46 8796093022207) rfl rfl (any_of HT_.out (by kernel_rfl)) (fun _ _ _ h => by first | exact h | cases h.1) (Or.inl ⟨by rfl, ?_⟩) ?_ ?_
        rotate_left
        · intro w'
          go_simp
          with_reducible rfl
        rotate_left
        · simp only [Act.put, List.setIfInBounds_toArray, List.set_cons_zero, List.set_cons_succ]
          rfl
        refine one_ (i := 43) (N := some 108) (fl 46 17592186044415) rfl rfl (one_of HT_.out (by kernel_rfl)) (by decide) (fun K hK => ?_)
        refine goes_ Try.func17 (by kernel_rfl) rfl #[.slice Am l.length cm, .slice Al l.length cl] (by rfl) rfl rfl (by (try simp only [List.map_toArray, List.map_cons, List.map_nil, List.append_toArray, List.cons_append, List.nil_append]); first | done | rfl) ?_
        refine (sameC _ Am cm Al cl l (HA.out.step HB.out).rm Lm.out (HA.out.step HB.out).rl HL.out.1 (by have := HS.out; omega)).mono ?_
        rintro e w43 ⟨rfl, hb⟩
        have n_ := Aside0.mk (HB.out.trans (hb.mono HB.out.size))
        clear HB
        have HB := n_
        clear n_
        clear hb
        refine ⟨_, rfl, ?_⟩
        refine hK.out _ _ ⟨(HA.out.step HB.out).kx, (HA.out.step HB.out).ky⟩ (fun hHeld => ?_)
        clear hK K
        refine norm_ (a' := ?_) ?_ ?_
        rotate_left
        · show Act.put _ (some 108) _ = _
          simp only [Act.put, List.setIfInBounds_toArray, List.set_cons_zero, List.set_cons_succ]
          rfl
        refine pure_ (i := 44) (N := some 109) (v := ?_) (a' := ?_) (fl 46 35184372088831) rfl rfl (any_of HT_.out (by kernel_rfl)) (fun _ _ _ h => by first | exact h | cases h.1) (Or.inl ⟨by rfl, ?_⟩) ?_ ?_
        rotate_left
        · intro w'
          go_simp
          with_reducible rfl
        rotate_left
        · simp only [Act.put, List.setIfInBounds_toArray, List.set_cons_zero, List.set_cons_succ]
          rfl
        refine pure_ (i := 45) (N := some 110) (v := ?_) (a' := ?_) (fl 46 70368744177663) rfl rfl (any_of HT_.out (by kernel_rfl)) (fun _ _ _ h => by first | exact h | cases h.1) (Or.inl ⟨by rfl, ?_⟩) ?_ ?_
        rotate_left
        · intro w'
          go_simp
          with_reducible rfl
        rotate_left
        · simp only [Act.put, List.setIfInBounds_toArray, List.set_cons_zero, List.set_cons_succ]
          rfl
        refine done_ (done_of HT_.out (by kernel_rfl)) ?_
        have HA2 := Aside0.mk (HA.out.step HB.out)
        clear HA HB
        try go_wp2
        go_meet
        case rel => exact ⟨rfl, HA2⟩
      · intro J
        refine three_ (i := 17) (j := 18) (k := 22) (Ni := some 82) (Nj := some 83) (Nk := some 87) (fl 46 2883583) (fl 46 3014655) (fl 46 6946815) rfl rfl rfl rfl rfl rfl (three_of HT_.out (by kernel_rfl)) (by decide) (by decide) (by decide) (fun K hK => ?_) (fun K hK => ?_) (fun K hK => ?_)
        · refine goes_ Try.func19 (by kernel_rfl) rfl #[.slice Am l.length cm, .agg #[.int .i64 x.f0, .int .i64 x.f1, .int .i64 x.f2, .slice Ax x.f3.length cx]] (by rfl) rfl rfl (by (try simp only [List.map_toArray, List.map_cons, List.map_nil, List.append_toArray, List.cons_append, List.nil_append]); first | done | rfl) ?_
          refine (put.calls Am cm l x Ax cx _ _ (HA.out.step HB.out).rm Lm.out (HA.out.step HB.out).gx HA.out.hx (if_pos HXL.out)).mono ?_
          rw [← HTX.out]
          rintro e w12 ⟨v, rfl, hv, hb⟩
          obtain ⟨Ap, cp, rfl⟩ := Kd.V_slice hv
          have hv2 := Kd.V_mono hv (ok' := fun _ => True) (fun _ _ => trivial)
          have F82 := Aside0.mk (Kd.V_lower hv2 HB.out.size)
          have n_ := Aside0.mk (HB.out.trans (hb.mono HB.out.size))
          clear HB
          have HB := n_
          clear n_
          clear hv hv2 hb
          refine ⟨_, rfl, ?_⟩
          refine hK.out _ _ ⟨(HA.out.step HB.out).kx, (HA.out.step HB.out).ky⟩ (fun hHeld => ?_)
          clear hK K
          refine norm_ (a' := ?_) ?_ ?_
          rotate_left
          · show Act.put _ (some 82) _ = _
            simp only [Act.put, List.setIfInBounds_toArray, List.set_cons_zero, List.set_cons_succ]
            rfl
          refine two_ (i := 18) (j := 22) (Ni := some 83) (Nj := some 87) (fl 46 3145727) (fl 46 7077887) rfl rfl rfl rfl (two_of HT_.out (by kernel_rfl)) (by decide) (by decide) (fun K hK => ?_) (fun K hK => ?_)
          · refine Kd.N_lit_step k25 (w0 := wd) wd.heap.size 25 (by rfl) (N' := 83) rfl (xs := ([] : List S25)) (inner := []) (ok := fun _ => True) (okp := fun _ => True) ?hr ?hp (fun _ hk => hk) trivial HB.out HB.out.size (by simp) ?_
            case hr => first | (go_simp; done) | (go_simp; rfl)
            case hp => exact Reps.none _ _
            intro v w13 hn hB hg hat
            have hb := (Below.refl _ _).grown hg (Nat.le_refl _) (fun k e => by cases e)
            have n_ := Aside0.mk (Kd.V_elder' F82.out (fun k hk => by obtain ⟨b, h1, h2⟩ := hat; rw [h1] at hk; injection hk with hk; omega) hb)
            clear F82
            have F82 := n_
            clear n_
            obtain ⟨A83, c83, rfl⟩ := Kd.N_slice hn
            have F83 := Aside0.mk hn
            have n_ := Aside0.mk hB
            clear HB
            have HB := n_
            clear n_ hn hB hg hat hb
            refine hK.out _ _ ⟨(HA.out.step HB.out).kx, (HA.out.step HB.out).ky⟩ (fun hHeld => ?_)
            clear hK K
            refine norm_ (a' := ?_) ?_ ?_
            rotate_left
            · show Act.put _ (some 83) _ = _
              simp only [Act.put, List.setIfInBounds_toArray, List.set_cons_zero, List.set_cons_succ]
              rfl
            refine two_ (i := 20) (j := 22) (Ni := some 85) (Nj := some 87) (fl 46 4194303) (fl 46 7340031) rfl rfl rfl rfl (two_of HT_.out (by kernel_rfl)) (by decide) (by decide) (fun K hK => ?_) (fun K hK => ?_)
            · refine Kd.N_append_rows_step k25 (w0 := wd) wd.heap.size (by rfl) (.tmp 83) (.tmp 84) 22 25 (.agg #[(.int .i64 0), (.int .i64 0), (.int .i64 0), (.slice none 0 0)]) 48 rfl Try.underlying22 info25 rfl (by decide) (by omega) _ _ l Al l.length cl (fun _ => True) (fun k => k < wd.heap.size) rfl rfl F83.out (Kd.F_below (Kd.C_F k25_heap HA.out.rl) HB.out) (fun k hk => ⟨trivial, fun e => by have := Kd.N_base F83.out _ e.symm; omega⟩) (fun _ _ => trivial) HB.out HB.out.size (by have := HS.out; simp; omega) ?_
              intro v w14 hn hB hg hat
              rw [List.nil_append] at hn
              have n_ := Aside0.mk (Kd.V_afterv F82.out hg hat)
              clear F82
              have F82 := n_
              clear n_
              obtain ⟨A85, c85, rfl⟩ := Kd.N_slice hn
              clear F83
              have F83 := Aside0.mk hn
              have n_ := Aside0.mk hB
              clear HB
              have HB := n_
              clear n_ hn hB hg hat
              refine hK.out _ _ ⟨(HA.out.step HB.out).kx, (HA.out.step HB.out).ky⟩ (fun hHeld => ?_)
              clear hK K
              refine norm_ (a' := ?_) ?_ ?_
              rotate_left
              · show Act.put _ (some 85) _ = _
                simp only [Act.put, List.setIfInBounds_toArray, List.set_cons_zero, List.set_cons_succ]
                rfl
              refine one_ (i := 22) (N := some 87) (fl 46 8388607) rfl rfl (one_of HT_.out (by kernel_rfl)) (by decide) (fun K hK => ?_)
              refine Kd.N_lit_step k25 (w0 := wd) wd.heap.size 25 (by rfl) (N' := 87) rfl (xs := [x]) (inner := [.int .i64 x.f0, .int .i64 x.f1, .int .i64 x.f2, .slice Ax x.f3.length cx]) (ok := (fun k => True ∧ some k ≠ (.slice A85 l.length c85 : Value).ownBlock)) (okp := fun k => k < wd.heap.size) ?hr ?hp (fun k hk => ⟨trivial, fun e => by have := Kd.N_base F83.out _ e.symm; omega⟩) ⟨trivial, Kd.fresh' (Kd.N_lt F83.out) _ (Nat.le_refl _)⟩ HB.out HB.out.size (by simp) ?_
              case hr => first | (go_simp; done) | (go_simp; rfl)
              case hp => exact Reps.c4 (FK_below2 (k25_mkF wd _ x HA.out.hx (Kd.C_F (Kd.heap_int .u8) HA.out.gx)) HB.out) (Reps.none _ _)
              intro v w15 hn hB hg hat
              have hb := (Below.refl _ _).grown hg (Nat.le_refl _) (fun k e => by cases e)
              have n_ := Aside0.mk (Kd.V_below F82.out hb)
              clear F82
              have F82 := n_
              clear n_
              have n_ := Aside0.mk (Kd.N_below F83.out hb)
              clear F83
              have F83 := n_
              clear n_
              obtain ⟨A87, c87, rfl⟩ := Kd.N_slice hn
              have F87 := Aside0.mk hn
              have n_ := Aside0.mk hB
              clear HB
              have HB := n_
              clear n_ hn hB hg hat hb
              refine hK.out _ _ ⟨(HA.out.step HB.out).kx, (HA.out.step HB.out).ky⟩ (fun hHeld => ?_)
              clear hK K
              refine norm_ (a' := ?_) ?_ ?_
              rotate_left
              · show Act.put _ (some 87) _ = _
                simp only [Act.put, List.setIfInBounds_toArray, List.set_cons_zero, List.set_cons_succ]
                rfl
              refine norm_ ?_ (J (.slice Ap tx.length cp, .slice A83 ([] : List S25).length c83, .slice A85 l.length c85, .slice A87 [x].length c87) _ ⟨Ap, cp, A85, c85, A87, c87, rfl, rfl, rfl, F82.out, F83.out, F87.out, HB.out⟩)
              simp only [putAll, Act.put, List.setIfInBounds_toArray, List.set_cons_zero, List.set_cons_succ]
            · refine Kd.N_lit_step k25 (w0 := wd) wd.heap.size 25 (by rfl) (N' := 87) rfl (xs := [x]) (inner := [.int .i64 x.f0, .int .i64 x.f1, .int .i64 x.f2, .slice Ax x.f3.length cx]) (ok := (fun k => True ∧ some k ≠ (.slice A83 ([] : List S25).length c83 : Value).ownBlock)) (okp := fun k => k < wd.heap.size) ?hr ?hp (fun k hk => ⟨trivial, fun e => by have := Kd.N_base F83.out _ e.symm; omega⟩) ⟨trivial, Kd.fresh' (Kd.N_lt F83.out) _ (Nat.le_refl _)⟩ HB.out HB.out.size (by simp) ?_
              case hr => first | (go_simp; done) | (go_simp; rfl)
              case hp => exact Reps.c4 (FK_below2 (k25_mkF wd _ x HA.out.hx (Kd.C_F (Kd.heap_int .u8) HA.out.gx)) HB.out) (Reps.none _ _)
              intro v w16 hn hB hg hat
              have hb := (Below.refl _ _).grown hg (Nat.le_refl _) (fun k e => by cases e)
              have n_ := Aside0.mk (Kd.V_below F82.out hb)
              clear F82
              have F82 := n_
              clear n_
              have n_ := Aside0.mk (Kd.N_below F83.out hb)
              clear F83
              have F83 := n_
              clear n_
              obtain ⟨A87, c87, rfl⟩ := Kd.N_slice hn
              have F87 := Aside0.mk hn
              have n_ := Aside0.mk hB
              clear HB
              have HB := n_
              clear n_ hn hB hg hat hb
              refine hK.out _ _ ⟨(HA.out.step HB.out).kx, (HA.out.step HB.out).ky⟩ (fun hHeld => ?_)
              clear hK K
              refine norm_ (a' := ?_) ?_ ?_
              rotate_left
              · show Act.put _ (some 87) _ = _
                simp only [Act.put, List.setIfInBounds_toArray, List.set_cons_zero, List.set_cons_succ]
                rfl
              refine one_ (i := 20) (N := some 85) (fl 46 8388607) rfl rfl (one_of HT_.out (by kernel_rfl)) (by decide) (fun K hK => ?_)
              refine Kd.N_append_rows_step k25 (w0 := wd) wd.heap.size (by rfl) (.tmp 83) (.tmp 84) 22 25 (.agg #[(.int .i64 0), (.int .i64 0), (.int .i64 0), (.slice none 0 0)]) 48 rfl Try.underlying22 info25 rfl (by decide) (by omega) _ _ l Al l.length cl (fun _ => True) (fun k => k < wd.heap.size) rfl rfl F83.out (Kd.F_below (Kd.C_F k25_heap HA.out.rl) HB.out) (fun k hk => ⟨trivial, fun e => by have := Kd.N_base F83.out _ e.symm; omega⟩) (fun _ _ => trivial) HB.out HB.out.size (by have := HS.out; simp; omega) ?_
              intro v w17 hn hB hg hat
              rw [List.nil_append] at hn
              have n_ := Aside0.mk (Kd.V_afterv F82.out hg hat)
              clear F82
              have F82 := n_
              clear n_
              have n_ := Aside0.mk (Kd.N_afterv F87.out hg hat)
              clear F87
              have F87 := n_
              clear n_
              obtain ⟨A85, c85, rfl⟩ := Kd.N_slice hn
              clear F83
              have F83 := Aside0.mk hn
              have n_ := Aside0.mk hB
              clear HB
              have HB := n_
              clear n_ hn hB hg hat
              refine hK.out _ _ ⟨(HA.out.step HB.out).kx, (HA.out.step HB.out).ky⟩ (fun hHeld => ?_)
              clear hK K
              refine norm_ (a' := ?_) ?_ ?_
              rotate_left
              · show Act.put _ (some 85) _ = _
                simp only [Act.put, List.setIfInBounds_toArray, List.set_cons_zero, List.set_cons_succ]
                rfl
              refine norm_ ?_ (J (.slice Ap tx.length cp, .slice A83 ([] : List S25).length c83, .slice A85 l.length c85, .slice A87 [x].length c87) _ ⟨Ap, cp, A85, c85, A87, c87, rfl, rfl, rfl, F82.out, F83.out, F87.out, HB.out⟩)
              simp only [putAll, Act.put, List.setIfInBounds_toArray, List.set_cons_zero, List.set_cons_succ]
          · refine Kd.N_lit_step k25 (w0 := wd) wd.heap.size 25 (by rfl) (N' := 87) rfl (xs := [x]) (inner := [.int .i64 x.f0, .int .i64 x.f1, .int .i64 x.f2, .slice Ax x.f3.length cx]) (ok := (fun _ => True)) (okp := fun k => k < wd.heap.size) ?hr ?hp (fun _ _ => trivial) trivial HB.out HB.out.size (by simp) ?_
            case hr => first | (go_simp; done) | (go_simp; rfl)
            case hp => exact Reps.c4 (FK_below2 (k25_mkF wd _ x HA.out.hx (Kd.C_F (Kd.heap_int .u8) HA.out.gx)) HB.out) (Reps.none _ _)
            intro v w18 hn hB hg hat
            have hb := (Below.refl _ _).grown hg (Nat.le_refl _) (fun k e => by cases e)
            have n_ := Aside0.mk (Kd.V_below F82.out hb)
            clear F82
            have F82 := n_
            clear n_
            obtain ⟨A87, c87, rfl⟩ := Kd.N_slice hn
            have F87 := Aside0.mk hn
            have n_ := Aside0.mk hB
            clear HB
            have HB := n_
            clear n_ hn hB hg hat hb
            refine hK.out _ _ ⟨(HA.out.step HB.out).kx, (HA.out.step HB.out).ky⟩ (fun hHeld => ?_)
            clear hK K
            refine norm_ (a' := ?_) ?_ ?_
            rotate_left
            · show Act.put _ (some 87) _ = _
              simp only [Act.put, List.setIfInBounds_toArray, List.set_cons_zero, List.set_cons_succ]
              rfl
            refine one_ (i := 18) (N := some 83) (fl 46 7340031) rfl rfl (one_of HT_.out (by kernel_rfl)) (by decide) (fun K hK => ?_)
            refine Kd.N_lit_step k25 (w0 := wd) wd.heap.size 25 (by rfl) (N' := 83) rfl (xs := ([] : List S25)) (inner := []) (ok := fun _ => True) (okp := fun _ => True) ?hr ?hp (fun _ hk => hk) trivial HB.out HB.out.size (by simp) ?_
            case hr => first | (go_simp; done) | (go_simp; rfl)
            case hp => exact Reps.none _ _
            intro v w19 hn hB hg hat
            have hb := (Below.refl _ _).grown hg (Nat.le_refl _) (fun k e => by cases e)
            have n_ := Aside0.mk (Kd.V_elder' F82.out (fun k hk => by obtain ⟨b, h1, h2⟩ := hat; rw [h1] at hk; injection hk with hk; omega) hb)
            clear F82
            have F82 := n_
            clear n_
            have n_ := Aside0.mk (Kd.N_elder' F87.out (fun k hk => by obtain ⟨b, h1, h2⟩ := hat; rw [h1] at hk; injection hk with hk; omega) hb)
            clear F87
            have F87 := n_
            clear n_
            obtain ⟨A83, c83, rfl⟩ := Kd.N_slice hn
            have F83 := Aside0.mk hn
            have n_ := Aside0.mk hB
            clear HB
            have HB := n_
            clear n_ hn hB hg hat hb
            refine hK.out _ _ ⟨(HA.out.step HB.out).kx, (HA.out.step HB.out).ky⟩ (fun hHeld => ?_)
            clear hK K
            refine norm_ (a' := ?_) ?_ ?_
            rotate_left
            · show Act.put _ (some 83) _ = _
              simp only [Act.put, List.setIfInBounds_toArray, List.set_cons_zero, List.set_cons_succ]
              rfl
            refine one_ (i := 20) (N := some 85) (fl 46 8388607) rfl rfl (one_of HT_.out (by kernel_rfl)) (by decide) (fun K hK => ?_)
            refine Kd.N_append_rows_step k25 (w0 := wd) wd.heap.size (by rfl) (.tmp 83) (.tmp 84) 22 25 (.agg #[(.int .i64 0), (.int .i64 0), (.int .i64 0), (.slice none 0 0)]) 48 rfl Try.underlying22 info25 rfl (by decide) (by omega) _ _ l Al l.length cl (fun _ => True) (fun k => k < wd.heap.size) rfl rfl F83.out (Kd.F_below (Kd.C_F k25_heap HA.out.rl) HB.out) (fun k hk => ⟨trivial, fun e => by have := Kd.N_base F83.out _ e.symm; omega⟩) (fun _ _ => trivial) HB.out HB.out.size (by have := HS.out; simp; omega) ?_
            intro v w20 hn hB hg hat
            rw [List.nil_append] at hn
            have n_ := Aside0.mk (Kd.V_afterv F82.out hg hat)
            clear F82
            have F82 := n_
            clear n_
            have n_ := Aside0.mk (Kd.N_afterv F87.out hg hat)
            clear F87
            have F87 := n_
            clear n_
            obtain ⟨A85, c85, rfl⟩ := Kd.N_slice hn
            clear F83
            have F83 := Aside0.mk hn
            have n_ := Aside0.mk hB
            clear HB
            have HB := n_
            clear n_ hn hB hg hat
            refine hK.out _ _ ⟨(HA.out.step HB.out).kx, (HA.out.step HB.out).ky⟩ (fun hHeld => ?_)
            clear hK K
            refine norm_ (a' := ?_) ?_ ?_
            rotate_left
            · show Act.put _ (some 85) _ = _
              simp only [Act.put, List.setIfInBounds_toArray, List.set_cons_zero, List.set_cons_succ]
              rfl
            refine norm_ ?_ (J (.slice Ap tx.length cp, .slice A83 ([] : List S25).length c83, .slice A85 l.length c85, .slice A87 [x].length c87) _ ⟨Ap, cp, A85, c85, A87, c87, rfl, rfl, rfl, F82.out, F83.out, F87.out, HB.out⟩)
            simp only [putAll, Act.put, List.setIfInBounds_toArray, List.set_cons_zero, List.set_cons_succ]
        · refine Kd.N_lit_step k25 (w0 := wd) wd.heap.size 25 (by rfl) (N' := 83) rfl (xs := ([] : List S25)) (inner := []) (ok := fun _ => True) (okp := fun _ => True) ?hr ?hp (fun _ hk => hk) trivial HB.out HB.out.size (by simp) ?_
          case hr => first | (go_simp; done) | (go_simp; rfl)
          case hp => exact Reps.none _ _
          intro v w21 hn hB hg hat
          have hb := (Below.refl _ _).grown hg (Nat.le_refl _) (fun k e => by cases e)
          obtain ⟨A83, c83, rfl⟩ := Kd.N_slice hn
          have F83 := Aside0.mk hn
          have n_ := Aside0.mk hB
          clear HB
          have HB := n_
          clear n_ hn hB hg hat hb
          refine hK.out _ _ ⟨(HA.out.step HB.out).kx, (HA.out.step HB.out).ky⟩ (fun hHeld => ?_)
          clear hK K
          refine norm_ (a' := ?_) ?_ ?_
          rotate_left
          · show Act.put _ (some 83) _ = _
            simp only [Act.put, List.setIfInBounds_toArray, List.set_cons_zero, List.set_cons_succ]
            rfl
          refine two_ (i := 17) (j := 22) (Ni := some 82) (Nj := some 87) (fl 46 3145727) (fl 46 7208959) rfl rfl rfl rfl (two_of HT_.out (by kernel_rfl)) (by decide) (by decide) (fun K hK => ?_) (fun K hK => ?_)
          · refine goes_ Try.func19 (by kernel_rfl) rfl #[.slice Am l.length cm, .agg #[.int .i64 x.f0, .int .i64 x.f1, .int .i64 x.f2, .slice Ax x.f3.length cx]] (by rfl) rfl rfl (by (try simp only [List.map_toArray, List.map_cons, List.map_nil, List.append_toArray, List.cons_append, List.nil_append]); first | done | rfl) ?_
            refine (put.calls Am cm l x Ax cx _ _ (HA.out.step HB.out).rm Lm.out (HA.out.step HB.out).gx HA.out.hx (if_pos HXL.out)).mono ?_
            rw [← HTX.out]
            rintro e w22 ⟨v, rfl, hv, hb⟩
            obtain ⟨Ap, cp, rfl⟩ := Kd.V_slice hv
            have hv2 := Kd.V_mono hv (ok' := (fun k => True ∧ some k ≠ (.slice A83 ([] : List S25).length c83 : Value).ownBlock)) (fun k hk => ⟨trivial, Kd.fresh' (Kd.N_lt F83.out) k hk⟩)
            have n_ := Aside0.mk (Kd.N_below F83.out hb)
            clear F83
            have F83 := n_
            clear n_
            have F82 := Aside0.mk (Kd.V_lower hv2 HB.out.size)
            have n_ := Aside0.mk (HB.out.trans (hb.mono HB.out.size))
            clear HB
            have HB := n_
            clear n_
            clear hv hv2 hb
            refine ⟨_, rfl, ?_⟩
            refine hK.out _ _ ⟨(HA.out.step HB.out).kx, (HA.out.step HB.out).ky⟩ (fun hHeld => ?_)
            clear hK K
            refine norm_ (a' := ?_) ?_ ?_
            rotate_left
            · show Act.put _ (some 82) _ = _
              simp only [Act.put, List.setIfInBounds_toArray, List.set_cons_zero, List.set_cons_succ]
              rfl
            refine two_ (i := 20) (j := 22) (Ni := some 85) (Nj := some 87) (fl 46 4194303) (fl 46 7340031) rfl rfl rfl rfl (two_of HT_.out (by kernel_rfl)) (by decide) (by decide) (fun K hK => ?_) (fun K hK => ?_)
            · refine Kd.N_append_rows_step k25 (w0 := wd) wd.heap.size (by rfl) (.tmp 83) (.tmp 84) 22 25 (.agg #[(.int .i64 0), (.int .i64 0), (.int .i64 0), (.slice none 0 0)]) 48 rfl Try.underlying22 info25 rfl (by decide) (by omega) _ _ l Al l.length cl (fun _ => True) (fun k => k < wd.heap.size) rfl rfl F83.out (Kd.F_below (Kd.C_F k25_heap HA.out.rl) HB.out) (fun k hk => ⟨trivial, fun e => by have := Kd.N_base F83.out _ e.symm; omega⟩) (fun _ _ => trivial) HB.out HB.out.size (by have := HS.out; simp; omega) ?_
              intro v w23 hn hB hg hat
              rw [List.nil_append] at hn
              have n_ := Aside0.mk (Kd.V_afterv F82.out hg hat)
              clear F82
              have F82 := n_
              clear n_
              obtain ⟨A85, c85, rfl⟩ := Kd.N_slice hn
              clear F83
              have F83 := Aside0.mk hn
              have n_ := Aside0.mk hB
              clear HB
              have HB := n_
              clear n_ hn hB hg hat
              refine hK.out _ _ ⟨(HA.out.step HB.out).kx, (HA.out.step HB.out).ky⟩ (fun hHeld => ?_)
              clear hK K
              refine norm_ (a' := ?_) ?_ ?_
              rotate_left
              · show Act.put _ (some 85) _ = _
                simp only [Act.put, List.setIfInBounds_toArray, List.set_cons_zero, List.set_cons_succ]
                rfl
              refine one_ (i := 22) (N := some 87) (fl 46 8388607) rfl rfl (one_of HT_.out (by kernel_rfl)) (by decide) (fun K hK => ?_)
              refine Kd.N_lit_step k25 (w0 := wd) wd.heap.size 25 (by rfl) (N' := 87) rfl (xs := [x]) (inner := [.int .i64 x.f0, .int .i64 x.f1, .int .i64 x.f2, .slice Ax x.f3.length cx]) (ok := (fun k => True ∧ some k ≠ (.slice A85 l.length c85 : Value).ownBlock)) (okp := fun k => k < wd.heap.size) ?hr ?hp (fun k hk => ⟨trivial, fun e => by have := Kd.N_base F83.out _ e.symm; omega⟩) ⟨trivial, Kd.fresh' (Kd.N_lt F83.out) _ (Nat.le_refl _)⟩ HB.out HB.out.size (by simp) ?_
              case hr => first | (go_simp; done) | (go_simp; rfl)
              case hp => exact Reps.c4 (FK_below2 (k25_mkF wd _ x HA.out.hx (Kd.C_F (Kd.heap_int .u8) HA.out.gx)) HB.out) (Reps.none _ _)
              intro v w24 hn hB hg hat
              have hb := (Below.refl _ _).grown hg (Nat.le_refl _) (fun k e => by cases e)
              have n_ := Aside0.mk (Kd.V_below F82.out hb)
              clear F82
              have F82 := n_
              clear n_
              have n_ := Aside0.mk (Kd.N_below F83.out hb)
              clear F83
              have F83 := n_
              clear n_
              obtain ⟨A87, c87, rfl⟩ := Kd.N_slice hn
              have F87 := Aside0.mk hn
              have n_ := Aside0.mk hB
              clear HB
              have HB := n_
              clear n_ hn hB hg hat hb
              refine hK.out _ _ ⟨(HA.out.step HB.out).kx, (HA.out.step HB.out).ky⟩ (fun hHeld => ?_)
              clear hK K
              refine norm_ (a' := ?_) ?_ ?_
              rotate_left
              · show Act.put _ (some 87) _ = _
                simp only [Act.put, List.setIfInBounds_toArray, List.set_cons_zero, List.set_cons_succ]
                rfl
              refine norm_ ?_ (J (.slice Ap tx.length cp, .slice A83 ([] : List S25).length c83, .slice A85 l.length c85, .slice A87 [x].length c87) _ ⟨Ap, cp, A85, c85, A87, c87, rfl, rfl, rfl, F82.out, F83.out, F87.out, HB.out⟩)
              simp only [putAll, Act.put, List.setIfInBounds_toArray, List.set_cons_zero, List.set_cons_succ]
            · refine Kd.N_lit_step k25 (w0 := wd) wd.heap.size 25 (by rfl) (N' := 87) rfl (xs := [x]) (inner := [.int .i64 x.f0, .int .i64 x.f1, .int .i64 x.f2, .slice Ax x.f3.length cx]) (ok := (fun k => True ∧ some k ≠ (.slice A83 ([] : List S25).length c83 : Value).ownBlock)) (okp := fun k => k < wd.heap.size) ?hr ?hp (fun k hk => ⟨trivial, fun e => by have := Kd.N_base F83.out _ e.symm; omega⟩) ⟨trivial, Kd.fresh' (Kd.N_lt F83.out) _ (Nat.le_refl _)⟩ HB.out HB.out.size (by simp) ?_
              case hr => first | (go_simp; done) | (go_simp; rfl)
              case hp => exact Reps.c4 (FK_below2 (k25_mkF wd _ x HA.out.hx (Kd.C_F (Kd.heap_int .u8) HA.out.gx)) HB.out) (Reps.none _ _)
              intro v w25 hn hB hg hat
              have hb := (Below.refl _ _).grown hg (Nat.le_refl _) (fun k e => by cases e)
              have n_ := Aside0.mk (Kd.V_below F82.out hb)
              clear F82
              have F82 := n_
              clear n_
              have n_ := Aside0.mk (Kd.N_below F83.out hb)
              clear F83
              have F83 := n_
              clear n_
              obtain ⟨A87, c87, rfl⟩ := Kd.N_slice hn
              have F87 := Aside0.mk hn
              have n_ := Aside0.mk hB
              clear HB
              have HB := n_
              clear n_ hn hB hg hat hb
              refine hK.out _ _ ⟨(HA.out.step HB.out).kx, (HA.out.step HB.out).ky⟩ (fun hHeld => ?_)
              clear hK K
              refine norm_ (a' := ?_) ?_ ?_
              rotate_left
              · show Act.put _ (some 87) _ = _
                simp only [Act.put, List.setIfInBounds_toArray, List.set_cons_zero, List.set_cons_succ]
                rfl
              refine one_ (i := 20) (N := some 85) (fl 46 8388607) rfl rfl (one_of HT_.out (by kernel_rfl)) (by decide) (fun K hK => ?_)
              refine Kd.N_append_rows_step k25 (w0 := wd) wd.heap.size (by rfl) (.tmp 83) (.tmp 84) 22 25 (.agg #[(.int .i64 0), (.int .i64 0), (.int .i64 0), (.slice none 0 0)]) 48 rfl Try.underlying22 info25 rfl (by decide) (by omega) _ _ l Al l.length cl (fun _ => True) (fun k => k < wd.heap.size) rfl rfl F83.out (Kd.F_below (Kd.C_F k25_heap HA.out.rl) HB.out) (fun k hk => ⟨trivial, fun e => by have := Kd.N_base F83.out _ e.symm; omega⟩) (fun _ _ => trivial) HB.out HB.out.size (by have := HS.out; simp; omega) ?_
              intro v w26 hn hB hg hat
              rw [List.nil_append] at hn
              have n_ := Aside0.mk (Kd.V_afterv F82.out hg hat)
              clear F82
              have F82 := n_
              clear n_
              have n_ := Aside0.mk (Kd.N_afterv F87.out hg hat)
              clear F87
              have F87 := n_
              clear n_
              obtain ⟨A85, c85, rfl⟩ := Kd.N_slice hn
              clear F83
              have F83 := Aside0.mk hn
              have n_ := Aside0.mk hB
              clear HB
              have HB := n_
              clear n_ hn hB hg hat
              refine hK.out _ _ ⟨(HA.out.step HB.out).kx, (HA.out.step HB.out).ky⟩ (fun hHeld => ?_)
              clear hK K
              refine norm_ (a' := ?_) ?_ ?_
              rotate_left
              · show Act.put _ (some 85) _ = _
                simp only [Act.put, List.setIfInBounds_toArray, List.set_cons_zero, List.set_cons_succ]
                rfl
              refine norm_ ?_ (J (.slice Ap tx.length cp, .slice A83 ([] : List S25).length c83, .slice A85 l.length c85, .slice A87 [x].length c87) _ ⟨Ap, cp, A85, c85, A87, c87, rfl, rfl, rfl, F82.out, F83.out, F87.out, HB.out⟩)
              simp only [putAll, Act.put, List.setIfInBounds_toArray, List.set_cons_zero, List.set_cons_succ]
          · refine Kd.N_lit_step k25 (w0 := wd) wd.heap.size 25 (by rfl) (N' := 87) rfl (xs := [x]) (inner := [.int .i64 x.f0, .int .i64 x.f1, .int .i64 x.f2, .slice Ax x.f3.length cx]) (ok := (fun k => True ∧ some k ≠ (.slice A83 ([] : List S25).length c83 : Value).ownBlock)) (okp := fun k => k < wd.heap.size) ?hr ?hp (fun k hk => ⟨trivial, fun e => by have := Kd.N_base F83.out _ e.symm; omega⟩) ⟨trivial, Kd.fresh' (Kd.N_lt F83.out) _ (Nat.le_refl _)⟩ HB.out HB.out.size (by simp) ?_
            case hr => first | (go_simp; done) | (go_simp; rfl)
            case hp => exact Reps.c4 (FK_below2 (k25_mkF wd _ x HA.out.hx (Kd.C_F (Kd.heap_int .u8) HA.out.gx)) HB.out) (Reps.none _ _)
            intro v w27 hn hB hg hat
            have hb := (Below.refl _ _).grown hg (Nat.le_refl _) (fun k e => by cases e)
            have n_ := Aside0.mk (Kd.N_below F83.out hb)
            clear F83
            have F83 := n_
            clear n_
            obtain ⟨A87, c87, rfl⟩ := Kd.N_slice hn
            have F87 := Aside0.mk hn
            have n_ := Aside0.mk hB
            clear HB
            have HB := n_
            clear n_ hn hB hg hat hb
            refine hK.out _ _ ⟨(HA.out.step HB.out).kx, (HA.out.step HB.out).ky⟩ (fun hHeld => ?_)
            clear hK K
            refine norm_ (a' := ?_) ?_ ?_
            rotate_left
            · show Act.put _ (some 87) _ = _
              simp only [Act.put, List.setIfInBounds_toArray, List.set_cons_zero, List.set_cons_succ]
              rfl
            refine one_ (i := 17) (N := some 82) (fl 46 7340031) rfl rfl (one_of HT_.out (by kernel_rfl)) (by decide) (fun K hK => ?_)
            refine goes_ Try.func19 (by kernel_rfl) rfl #[.slice Am l.length cm, .agg #[.int .i64 x.f0, .int .i64 x.f1, .int .i64 x.f2, .slice Ax x.f3.length cx]] (by rfl) rfl rfl (by (try simp only [List.map_toArray, List.map_cons, List.map_nil, List.append_toArray, List.cons_append, List.nil_append]); first | done | rfl) ?_
            refine (put.calls Am cm l x Ax cx _ _ (HA.out.step HB.out).rm Lm.out (HA.out.step HB.out).gx HA.out.hx (if_pos HXL.out)).mono ?_
            rw [← HTX.out]
            rintro e w28 ⟨v, rfl, hv, hb⟩
            obtain ⟨Ap, cp, rfl⟩ := Kd.V_slice hv
            have hv2 := Kd.V_mono hv (ok' := (fun k => True ∧ some k ≠ (.slice A83 ([] : List S25).length c83 : Value).ownBlock)) (fun k hk => ⟨trivial, Kd.fresh' (Kd.N_lt F83.out) k hk⟩)
            have n_ := Aside0.mk (Kd.N_below F83.out hb)
            clear F83
            have F83 := n_
            clear n_
            have n_ := Aside0.mk (Kd.N_below F87.out hb)
            clear F87
            have F87 := n_
            clear n_
            have F82 := Aside0.mk (Kd.V_lower hv2 HB.out.size)
            have n_ := Aside0.mk (HB.out.trans (hb.mono HB.out.size))
            clear HB
            have HB := n_
            clear n_
            clear hv hv2 hb
            refine ⟨_, rfl, ?_⟩
            refine hK.out _ _ ⟨(HA.out.step HB.out).kx, (HA.out.step HB.out).ky⟩ (fun hHeld => ?_)
            clear hK K
            refine norm_ (a' := ?_) ?_ ?_
            rotate_left
            · show Act.put _ (some 82) _ = _
              simp only [Act.put, List.setIfInBounds_toArray, List.set_cons_zero, List.set_cons_succ]
              rfl
            refine one_ (i := 20) (N := some 85) (fl 46 8388607) rfl rfl (one_of HT_.out (by kernel_rfl)) (by decide) (fun K hK => ?_)
            refine Kd.N_append_rows_step k25 (w0 := wd) wd.heap.size (by rfl) (.tmp 83) (.tmp 84) 22 25 (.agg #[(.int .i64 0), (.int .i64 0), (.int .i64 0), (.slice none 0 0)]) 48 rfl Try.underlying22 info25 rfl (by decide) (by omega) _ _ l Al l.length cl (fun _ => True) (fun k => k < wd.heap.size) rfl rfl F83.out (Kd.F_below (Kd.C_F k25_heap HA.out.rl) HB.out) (fun k hk => ⟨trivial, fun e => by have := Kd.N_base F83.out _ e.symm; omega⟩) (fun _ _ => trivial) HB.out HB.out.size (by have := HS.out; simp; omega) ?_
            intro v w29 hn hB hg hat
            rw [List.nil_append] at hn
            have n_ := Aside0.mk (Kd.V_afterv F82.out hg hat)
            clear F82
            have F82 := n_
            clear n_
            have n_ := Aside0.mk (Kd.N_afterv F87.out hg hat)
            clear F87
            have F87 := n_
            clear n_
            obtain ⟨A85, c85, rfl⟩ := Kd.N_slice hn
            clear F83
            have F83 := Aside0.mk hn
            have n_ := Aside0.mk hB
            clear HB
            have HB := n_
            clear n_ hn hB hg hat
            refine hK.out _ _ ⟨(HA.out.step HB.out).kx, (HA.out.step HB.out).ky⟩ (fun hHeld => ?_)
            clear hK K
            refine norm_ (a' := ?_) ?_ ?_
            rotate_left
            · show Act.put _ (some 85) _ = _
              simp only [Act.put, List.setIfInBounds_toArray, List.set_cons_zero, List.set_cons_succ]
              rfl
            refine norm_ ?_ (J (.slice Ap tx.length cp, .slice A83 ([] : List S25).length c83, .slice A85 l.length c85, .slice A87 [x].length c87) _ ⟨Ap, cp, A85, c85, A87, c87, rfl, rfl, rfl, F82.out, F83.out, F87.out, HB.out⟩)
            simp only [putAll, Act.put, List.setIfInBounds_toArray, List.set_cons_zero, List.set_cons_succ]
        · refine Kd.N_lit_step k25 (w0 := wd) wd.heap.size 25 (by rfl) (N' := 87) rfl (xs := [x]) (inner := [.int .i64 x.f0, .int .i64 x.f1, .int .i64 x.f2, .slice Ax x.f3.length cx]) (ok := (fun _ => True)) (okp := fun k => k < wd.heap.size) ?hr ?hp (fun _ _ => trivial) trivial HB.out HB.out.size (by simp) ?_
          case hr => first | (go_simp; done) | (go_simp; rfl)
          case hp => exact Reps.c4 (FK_below2 (k25_mkF wd _ x HA.out.hx (Kd.C_F (Kd.heap_int .u8) HA.out.gx)) HB.out) (Reps.none _ _)
          intro v w30 hn hB hg hat
          have hb := (Below.refl _ _).grown hg (Nat.le_refl _) (fun k e => by cases e)
          obtain ⟨A87, c87, rfl⟩ := Kd.N_slice hn
          have F87 := Aside0.mk hn
          have n_ := Aside0.mk hB
          clear HB
          have HB := n_
          clear n_ hn hB hg hat hb
          refine hK.out _ _ ⟨(HA.out.step HB.out).kx, (HA.out.step HB.out).ky⟩ (fun hHeld => ?_)
          clear hK K
          refine norm_ (a' := ?_) ?_ ?_
          rotate_left
          · show Act.put _ (some 87) _ = _
            simp only [Act.put, List.setIfInBounds_toArray, List.set_cons_zero, List.set_cons_succ]
            rfl
          refine two_ (i := 17) (j := 18) (Ni := some 82) (Nj := some 83) (fl 46 7077887) (fl 46 7208959) rfl rfl rfl rfl (two_of HT_.out (by kernel_rfl)) (by decide) (by decide) (fun K hK => ?_) (fun K hK => ?_)
          · refine goes_ Try.func19 (by kernel_rfl) rfl #[.slice Am l.length cm, .agg #[.int .i64 x.f0, .int .i64 x.f1, .int .i64 x.f2, .slice Ax x.f3.length cx]] (by rfl) rfl rfl (by (try simp only [List.map_toArray, List.map_cons, List.map_nil, List.append_toArray, List.cons_append, List.nil_append]); first | done | rfl) ?_
            refine (put.calls Am cm l x Ax cx _ _ (HA.out.step HB.out).rm Lm.out (HA.out.step HB.out).gx HA.out.hx (if_pos HXL.out)).mono ?_
            rw [← HTX.out]
            rintro e w31 ⟨v, rfl, hv, hb⟩
            obtain ⟨Ap, cp, rfl⟩ := Kd.V_slice hv
            have hv2 := Kd.V_mono hv (ok' := fun _ => True) (fun _ _ => trivial)
            have n_ := Aside0.mk (Kd.N_below F87.out hb)
            clear F87
            have F87 := n_
            clear n_
            have F82 := Aside0.mk (Kd.V_lower hv2 HB.out.size)
            have n_ := Aside0.mk (HB.out.trans (hb.mono HB.out.size))
            clear HB
            have HB := n_
            clear n_
            clear hv hv2 hb
            refine ⟨_, rfl, ?_⟩
            refine hK.out _ _ ⟨(HA.out.step HB.out).kx, (HA.out.step HB.out).ky⟩ (fun hHeld => ?_)
            clear hK K
            refine norm_ (a' := ?_) ?_ ?_
            rotate_left
            · show Act.put _ (some 82) _ = _
              simp only [Act.put, List.setIfInBounds_toArray, List.set_cons_zero, List.set_cons_succ]
              rfl
            refine one_ (i := 18) (N := some 83) (fl 46 7340031) rfl rfl (one_of HT_.out (by kernel_rfl)) (by decide) (fun K hK => ?_)
            refine Kd.N_lit_step k25 (w0 := wd) wd.heap.size 25 (by rfl) (N' := 83) rfl (xs := ([] : List S25)) (inner := []) (ok := fun _ => True) (okp := fun _ => True) ?hr ?hp (fun _ hk => hk) trivial HB.out HB.out.size (by simp) ?_
            case hr => first | (go_simp; done) | (go_simp; rfl)
            case hp => exact Reps.none _ _
            intro v w32 hn hB hg hat
            have hb := (Below.refl _ _).grown hg (Nat.le_refl _) (fun k e => by cases e)
            have n_ := Aside0.mk (Kd.V_elder' F82.out (fun k hk => by obtain ⟨b, h1, h2⟩ := hat; rw [h1] at hk; injection hk with hk; omega) hb)
            clear F82
            have F82 := n_
            clear n_
            have n_ := Aside0.mk (Kd.N_elder' F87.out (fun k hk => by obtain ⟨b, h1, h2⟩ := hat; rw [h1] at hk; injection hk with hk; omega) hb)
            clear F87
            have F87 := n_
            clear n_
            obtain ⟨A83, c83, rfl⟩ := Kd.N_slice hn
            have F83 := Aside0.mk hn
            have n_ := Aside0.mk hB
            clear HB
            have HB := n_
            clear n_ hn hB hg hat hb
            refine hK.out _ _ ⟨(HA.out.step HB.out).kx, (HA.out.step HB.out).ky⟩ (fun hHeld => ?_)
            clear hK K
            refine norm_ (a' := ?_) ?_ ?_
            rotate_left
            · show Act.put _ (some 83) _ = _
              simp only [Act.put, List.setIfInBounds_toArray, List.set_cons_zero, List.set_cons_succ]
              rfl
            refine one_ (i := 20) (N := some 85) (fl 46 8388607) rfl rfl (one_of HT_.out (by kernel_rfl)) (by decide) (fun K hK => ?_)
            refine Kd.N_append_rows_step k25 (w0 := wd) wd.heap.size (by rfl) (.tmp 83) (.tmp 84) 22 25 (.agg #[(.int .i64 0), (.int .i64 0), (.int .i64 0), (.slice none 0 0)]) 48 rfl Try.underlying22 info25 rfl (by decide) (by omega) _ _ l Al l.length cl (fun _ => True) (fun k => k < wd.heap.size) rfl rfl F83.out (Kd.F_below (Kd.C_F k25_heap HA.out.rl) HB.out) (fun k hk => ⟨trivial, fun e => by have := Kd.N_base F83.out _ e.symm; omega⟩) (fun _ _ => trivial) HB.out HB.out.size (by have := HS.out; simp; omega) ?_
            intro v w33 hn hB hg hat
            rw [List.nil_append] at hn
            have n_ := Aside0.mk (Kd.V_afterv F82.out hg hat)
            clear F82
            have F82 := n_
            clear n_
            have n_ := Aside0.mk (Kd.N_afterv F87.out hg hat)
            clear F87
            have F87 := n_
            clear n_
            obtain ⟨A85, c85, rfl⟩ := Kd.N_slice hn
            clear F83
            have F83 := Aside0.mk hn
            have n_ := Aside0.mk hB
            clear HB
            have HB := n_
            clear n_ hn hB hg hat
            refine hK.out _ _ ⟨(HA.out.step HB.out).kx, (HA.out.step HB.out).ky⟩ (fun hHeld => ?_)
            clear hK K
            refine norm_ (a' := ?_) ?_ ?_
            rotate_left
            · show Act.put _ (some 85) _ = _
              simp only [Act.put, List.setIfInBounds_toArray, List.set_cons_zero, List.set_cons_succ]
              rfl
            refine norm_ ?_ (J (.slice Ap tx.length cp, .slice A83 ([] : List S25).length c83, .slice A85 l.length c85, .slice A87 [x].length c87) _ ⟨Ap, cp, A85, c85, A87, c87, rfl, rfl, rfl, F82.out, F83.out, F87.out, HB.out⟩)
            simp only [putAll, Act.put, List.setIfInBounds_toArray, List.set_cons_zero, List.set_cons_succ]
          · refine Kd.N_lit_step k25 (w0 := wd) wd.heap.size 25 (by rfl) (N' := 83) rfl (xs := ([] : List S25)) (inner := []) (ok := fun _ => True) (okp := fun _ => True) ?hr ?hp (fun _ hk => hk) trivial HB.out HB.out.size (by simp) ?_
            case hr => first | (go_simp; done) | (go_simp; rfl)
            case hp => exact Reps.none _ _
            intro v w34 hn hB hg hat
            have hb := (Below.refl _ _).grown hg (Nat.le_refl _) (fun k e => by cases e)
            have n_ := Aside0.mk (Kd.N_elder' F87.out (fun k hk => by obtain ⟨b, h1, h2⟩ := hat; rw [h1] at hk; injection hk with hk; omega) hb)
            clear F87
            have F87 := n_
            clear n_
            obtain ⟨A83, c83, rfl⟩ := Kd.N_slice hn
            have F83 := Aside0.mk hn
            have n_ := Aside0.mk hB
            clear HB
            have HB := n_
            clear n_ hn hB hg hat hb
            refine hK.out _ _ ⟨(HA.out.step HB.out).kx, (HA.out.step HB.out).ky⟩ (fun hHeld => ?_)
            clear hK K
            refine norm_ (a' := ?_) ?_ ?_
            rotate_left
            · show Act.put _ (some 83) _ = _
              simp only [Act.put, List.setIfInBounds_toArray, List.set_cons_zero, List.set_cons_succ]
              rfl
            refine one_ (i := 17) (N := some 82) (fl 46 7340031) rfl rfl (one_of HT_.out (by kernel_rfl)) (by decide) (fun K hK => ?_)
            refine goes_ Try.func19 (by kernel_rfl) rfl #[.slice Am l.length cm, .agg #[.int .i64 x.f0, .int .i64 x.f1, .int .i64 x.f2, .slice Ax x.f3.length cx]] (by rfl) rfl rfl (by (try simp only [List.map_toArray, List.map_cons, List.map_nil, List.append_toArray, List.cons_append, List.nil_append]); first | done | rfl) ?_
            refine (put.calls Am cm l x Ax cx _ _ (HA.out.step HB.out).rm Lm.out (HA.out.step HB.out).gx HA.out.hx (if_pos HXL.out)).mono ?_
            rw [← HTX.out]
            rintro e w35 ⟨v, rfl, hv, hb⟩
            obtain ⟨Ap, cp, rfl⟩ := Kd.V_slice hv
            have hv2 := Kd.V_mono hv (ok' := (fun k => True ∧ some k ≠ (.slice A83 ([] : List S25).length c83 : Value).ownBlock)) (fun k hk => ⟨trivial, Kd.fresh' (Kd.N_lt F83.out) k hk⟩)
            have n_ := Aside0.mk (Kd.N_below F83.out hb)
            clear F83
            have F83 := n_
            clear n_
            have n_ := Aside0.mk (Kd.N_below F87.out hb)
            clear F87
            have F87 := n_
            clear n_
            have F82 := Aside0.mk (Kd.V_lower hv2 HB.out.size)
            have n_ := Aside0.mk (HB.out.trans (hb.mono HB.out.size))
            clear HB
            have HB := n_
            clear n_
            clear hv hv2 hb
            refine ⟨_, rfl, ?_⟩
            refine hK.out _ _ ⟨(HA.out.step HB.out).kx, (HA.out.step HB.out).ky⟩ (fun hHeld => ?_)
            clear hK K
            refine norm_ (a' := ?_) ?_ ?_
            rotate_left
            · show Act.put _ (some 82) _ = _
              simp only [Act.put, List.setIfInBounds_toArray, List.set_cons_zero, List.set_cons_succ]
              rfl
            refine one_ (i := 20) (N := some 85) (fl 46 8388607) rfl rfl (one_of HT_.out (by kernel_rfl)) (by decide) (fun K hK => ?_)
            refine Kd.N_append_rows_step k25 (w0 := wd) wd.heap.size (by rfl) (.tmp 83) (.tmp 84) 22 25 (.agg #[(.int .i64 0), (.int .i64 0), (.int .i64 0), (.slice none 0 0)]) 48 rfl Try.underlying22 info25 rfl (by decide) (by omega) _ _ l Al l.length cl (fun _ => True) (fun k => k < wd.heap.size) rfl rfl F83.out (Kd.F_below (Kd.C_F k25_heap HA.out.rl) HB.out) (fun k hk => ⟨trivial, fun e => by have := Kd.N_base F83.out _ e.symm; omega⟩) (fun _ _ => trivial) HB.out HB.out.size (by have := HS.out; simp; omega) ?_
            intro v w36 hn hB hg hat
            rw [List.nil_append] at hn
            have n_ := Aside0.mk (Kd.V_afterv F82.out hg hat)
            clear F82
            have F82 := n_
            clear n_
            have n_ := Aside0.mk (Kd.N_afterv F87.out hg hat)
            clear F87
            have F87 := n_
            clear n_
            obtain ⟨A85, c85, rfl⟩ := Kd.N_slice hn
            clear F83
            have F83 := Aside0.mk hn
            have n_ := Aside0.mk hB
            clear HB
            have HB := n_
            clear n_ hn hB hg hat
            refine hK.out _ _ ⟨(HA.out.step HB.out).kx, (HA.out.step HB.out).ky⟩ (fun hHeld => ?_)
            clear hK K
            refine norm_ (a' := ?_) ?_ ?_
            rotate_left
            · show Act.put _ (some 85) _ = _
              simp only [Act.put, List.setIfInBounds_toArray, List.set_cons_zero, List.set_cons_succ]
              rfl
            refine norm_ ?_ (J (.slice Ap tx.length cp, .slice A83 ([] : List S25).length c83, .slice A85 l.length c85, .slice A87 [x].length c87) _ ⟨Ap, cp, A85, c85, A87, c87, rfl, rfl, rfl, F82.out, F83.out, F87.out, HB.out⟩)
            simp only [putAll, Act.put, List.setIfInBounds_toArray, List.set_cons_zero, List.set_cons_succ]
    case rest =>
      obtain ⟨rfl, HA⟩ := hcut
      by_cases hln : l = []
      · obtain rfl := hln
        have hq : (z25, ([] : List S25), false) = (fa, fr, fok) := HFQ.out
        injection hq with e1 e2
        injection e2 with e2 e3
        subst e1 e2 e3
        obtain rfl : (0 : Int) = nx := HNX.out.1
        obtain rfl : false = nb := HNX.out.2
        have qa0 : wc.cell? ⟨bf, 0, none⟩ = some (.int .i64 z25.f0) := blk_cell HA.out.ka 0
        have qa1 : wc.cell? ⟨bf, 1, none⟩ = some (.int .i64 z25.f1) := blk_cell HA.out.ka 1
        have qa2 : wc.cell? ⟨bf, 2, none⟩ = some (.int .i64 z25.f2) := blk_cell HA.out.ka 2
        have qa3 : wc.cell? ⟨bf, 3, none⟩ = some (.slice Aa z25.f3.length ca) := blk_cell HA.out.ka 3
        go_wp2_with ((with_reducible refine gate_dst (N := 127) rfl ?_); refine Aside0.out (p := _) ?_)
        refine Aside0.mk ?_
        refine gate_guard (by rfl) ?_
        dsimp only
        refine goesL_ (some 127) rfl rfl Try.func20 (by kernel_rfl) rfl #[.agg #[.int .i64 z25.f0, .int .i64 z25.f1, .int .i64 z25.f2, .slice Aa z25.f3.length ca], .agg #[.int .i64 0, .int .i64 0, .int .i64 0, .slice none 0 0]] rfl (by (try simp only [List.map_toArray, List.map_cons, List.map_nil, List.append_toArray, List.cons_append, List.nil_append]); first | done | rfl) ?_
        clear qa0 qa1 qa2 qa3
        refine (one.calls _ z25 z25 Aa ca none 0 HA.out.ga HA.out.ha (Kd.C_nil _ _) (Nat.le_refl _)).mono ?_
        rintro e w90 ⟨rfl, hb⟩
        rw [eqL_refl]
        refine ⟨_, rfl, ?_⟩
        have HZ := Aside0.mk (HA.out.step hb).ba
        clear hb HA
        go_wp2
        go_ret
        exact ⟨rfl, HZ.out⟩
      · have hpos : 0 < l.length := List.length_pos_iff.mpr hln
        have hsl := (Hp.srt_perm (lt := ltL) l).length_eq
        have hsl2 : s.length = l.length := by rw [HSS.out]; exact hsl
        cases hsr : Hp.srt ltL l with
        | nil => rw [hsr] at hsl; simp at hsl; omega
        | cons u r =>
        have hq : (u, r, true) = (fa, fr, fok) := by rw [← HFQ.out]; unfold firstR; rw [hsr]
        injection hq with e1 e2
        injection e2 with e2 e3
        subst e1 e2 e3
        obtain rfl : u.f0 = nx := by rw [← HNX.out.1, hsr]; rfl
        obtain rfl : true = nb := by rw [← HNX.out.2, hsr]; rfl
        have hsu : s = u :: r := HSS.out.trans hsr
        have hsn : s.length = r.length + 1 := by rw [hsu]; rfl
        have hz : rd_T25 s 0 = u := by rw [hsu]; rfl
        obtain ⟨ad, A9, c9, e, hx0, hx1, hx2, hx3, hl3, hi3⟩ := at_T25 HA.out.rs 0 (by omega) (by omega)
        have ha0 : ad.add ((0 : Int).toNat * 4) = ad := by cases ad; rfl
        rw [ha0] at hx0 hx1 hx2 hx3
        clear ha0
        subst e
        rw [hz] at hx0 hx1 hx2 hx3 hl3 hi3
        have H3 := Aside0.mk (And.intro hl3 hi3)
        clear hl3 hi3 hz
        obtain ⟨i0, hi0, _, hsz, _⟩ := info_parts info25
        have hcut := cut_from (P := Try.prog) 22 25 .i64 Try.underlying22 hi0 4 hsz (some ad) s.length cs 1 (by omega) (by omega)
        have hdr := Kd.C_drop (m := 1) (c := cs) HA.out.rs (by omega) Ls.out
        have hd1 : s.drop 1 = r := by rw [hsu]; rfl
        rw [hd1] at hdr
        obtain ⟨A15, hA15⟩ : ∃ A, A = (if cs = (1 : Int).toNat then some ad else (some ad : Option Addr).map (·.add ((1 : Int).toNat * 4))) := ⟨_, rfl⟩
        obtain ⟨c15, hc15⟩ : ∃ c, c = cs - (1 : Int).toNat := ⟨_, rfl⟩
        have hn15 : s.length - (1 : Int).toNat = r.length := by rw [hsn]; rfl
        rw [← hA15, ← hc15, hn15] at hcut
        have H15 := Aside0.mk (show Kd.C k25 wc A15 r.length r ∧ r.length ≤ c15 from ⟨by rw [hA15]; exact hdr, by rw [hc15, ← hn15]; exact Nat.sub_le_sub_right Ls.out _⟩)
        have HRL := Aside0.mk (show r.length < 1099511627776 from by have := HS.out; omega)
        clear hA15 hc15 hn15 hdr hd1 hi0 hsz
        have b0 : decide (l.length = 0) = false := decide_eq_false (by omega)
        have b1 : ((l.length : Int) == 0) = false := beq_eq_false_iff_ne.mpr (by omega)
        have b2 : (l.length == 0) = false := beq_eq_false_iff_ne.mpr (by omega)
        have b3 : 0 < s.length := by omega
        have b4 : decide (0 < s.length) = true := decide_eq_true b3
        have b5 : decide ((0 : Int) < (s.length : Int)) = true := decide_eq_true (by omega)
        have HB5 := Aside0.mk b5
        clear hsl hsl2 hsr hsu hsn hpos hln
        go_wp2
        clear b0 b1 b2
        refine start_ (n := 26) (S := fun w' => w'.heap[bf]? = some (.cells #[.int .i64 u.f0, .int .i64 u.f1, .int .i64 u.f2, .slice Aa u.f3.length ca] 25 (0, 0)) ∧ w'.cell? ad = some (.int .i64 u.f0) ∧ w'.cell? ⟨ad.block, ad.off + 1, none⟩ = some (.int .i64 u.f1) ∧ w'.cell? ⟨ad.block, ad.off + 2, none⟩ = some (.int .i64 u.f2) ∧ w'.cell? ⟨ad.block, ad.off + 3, none⟩ = some (.slice A9 u.f3.length c9)) (ds := []) (fl 26 0) (by kernel_rfl) rfl (by kernel_rfl) ⟨HA.out.ka, hx0, hx1, hx2, hx3⟩ (fun hHeld => ?_)
        refine with_tabW qs_tab qs_bits (fun HT_ HW_ => ?_)
        clear hx0 hx1 hx2 hx3
        have n_ := Aside0.mk (HA.out.step (below_drew (Below.refl _ _)))
        clear HA
        have HA := n_
        clear n_
        have H15' := Aside0.mk (And.intro (Kd.C_below H15.out.1 (below_drew (Below.refl _ _))) H15.out.2)
        have H3' := Aside0.mk (And.intro H3.out.1 (Kd.C_below H3.out.2 (below_drew (Below.refl _ _))))
        clear H15 H3
        generalize wc.drew = wd at HA H15' H3' hHeld ⊢
        refine pure_ (i := 0) (N := some 134) (v := ?_) (a' := ?_) (fl 26 1) rfl rfl (any_of HT_.out (by kernel_rfl)) (fun _ _ _ h => by first | exact h | cases h.1) (Or.inl ⟨by rfl, ?_⟩) ?_ ?_
        rotate_left
        · intro w'
          go_simp
          with_reducible rfl
        rotate_left
        · simp only [Act.put, List.setIfInBounds_toArray, List.set_cons_zero, List.set_cons_succ]
          rfl
        refine pure_ (i := 1) (N := some 135) (v := ?_) (a' := ?_) (fl 26 3) rfl rfl (any_of HT_.out (by kernel_rfl)) (fun _ _ _ h => by first | exact h | cases h.1) (Or.inl ⟨by rfl, ?_⟩) ?_ ?_
        rotate_left
        · intro w'
          go_simp
          with_reducible rfl
        rotate_left
        · simp only [Act.put, List.setIfInBounds_toArray, List.set_cons_zero, List.set_cons_succ]
          rfl
        refine pure_ (i := 2) (N := some 136) (v := ?_) (a' := ?_) (fl 26 7) rfl rfl (any_of HT_.out (by kernel_rfl)) (fun _ _ _ h => by first | exact h | cases h.1) (Or.inl ⟨by rfl, ?_⟩) ?_ ?_
        rotate_left
        · intro w'
          go_simp
          with_reducible rfl
        rotate_left
        · simp only [Act.put, List.setIfInBounds_toArray, List.set_cons_zero, List.set_cons_succ]
          rfl
        refine pure_ (i := 3) (N := some 137) (v := ?_) (a' := ?_) (fl 26 15) rfl rfl (any_of HT_.out (by kernel_rfl)) (fun _ _ _ h => by first | exact h | cases h.1) (Or.inl ⟨by rfl, ?_⟩) ?_ ?_
        rotate_left
        · intro w'
          go_simp
          with_reducible rfl
        rotate_left
        · simp only [Act.put, List.setIfInBounds_toArray, List.set_cons_zero, List.set_cons_succ]
          rfl
        refine pure_ (i := 4) (N := some 138) (v := ?_) (a' := ?_) (fl 26 31) rfl rfl (any_of HT_.out (by kernel_rfl)) (fun _ _ _ h => by first | exact h | cases h.1) (Or.inl ⟨by rfl, ?_⟩) ?_ ?_
        rotate_left
        · intro w'
          go_simp
          with_reducible rfl
        rotate_left
        · simp only [Act.put, List.setIfInBounds_toArray, List.set_cons_zero, List.set_cons_succ]
          rfl
        refine pure_ (i := 5) (N := some 139) (v := ?_) (a' := ?_) (fl 26 63) rfl rfl (any_of HT_.out (by kernel_rfl)) (fun _ _ _ h => by first | exact h | cases h.1) (Or.inl ⟨by rfl, ?_⟩) ?_ ?_
        rotate_left
        · intro w'
          go_simp
          with_reducible rfl
        rotate_left
        · simp only [Act.put, List.setIfInBounds_toArray, List.set_cons_zero, List.set_cons_succ]
          rfl
        refine pure_ (i := 6) (N := some 140) (v := ?_) (a' := ?_) (fl 26 127) rfl rfl (any_of HT_.out (by kernel_rfl)) (fun _ _ _ h => by first | exact h | cases h.1) (Or.inl ⟨by rfl, ?_⟩) ?_ ?_
        rotate_left
        · intro w'
          go_simp
          with_reducible rfl
        rotate_left
        · simp only [Act.put, List.setIfInBounds_toArray, List.set_cons_zero, List.set_cons_succ]
          rfl
        refine pure_ (i := 7) (N := some 141) (v := ?_) (a' := ?_) (fl 26 255) rfl rfl (any_of HT_.out (by kernel_rfl)) (fun _ _ _ h => by first | exact h | cases h.1) (Or.inl ⟨by rfl, ?_⟩) ?_ ?_
        rotate_left
        · intro w'
          go_simp
          with_reducible rfl
        rotate_left
        · simp only [Act.put, List.setIfInBounds_toArray, List.set_cons_zero, List.set_cons_succ]
          rfl
        refine pure_ (i := 8) (N := some 142) (v := ?_) (a' := ?_) (fl 26 511) rfl rfl (any_of HT_.out (by kernel_rfl)) (fun _ _ _ h => by first | exact h | cases h.1) (Or.inl ⟨by rfl, ?_⟩) ?_ ?_
        rotate_left
        · intro w'
          go_simp
          with_reducible rfl
        rotate_left
        · simp only [Act.put, List.setIfInBounds_toArray, List.set_cons_zero, List.set_cons_succ]
          rfl
        refine take_ (i := 9) (N := some 143) (v := ?_) (a' := ?_) (fl 26 1023) rfl rfl (take_ofW HT_.out HW_.out (by kernel_rfl)) (fun _ _ _ h => by first | exact h | cases h.1) (Or.inl ⟨by rfl, ?_⟩) hHeld ?_ ?_
        rotate_left
        · rintro w' ⟨s0, s1, s2, s3, s4⟩
          go_simp
          with_reducible rfl
        rotate_left
        · simp only [Act.put, List.setIfInBounds_toArray, List.set_cons_zero, List.set_cons_succ]
          rfl
        refine pure_ (i := 10) (N := some 144) (v := ?_) (a' := ?_) (fl 26 2047) rfl rfl (any_of HT_.out (by kernel_rfl)) (fun _ _ _ h => by first | exact h | cases h.1) (Or.inl ⟨by rfl, ?_⟩) ?_ ?_
        rotate_left
        · intro w'
          go_simp
          with_reducible rfl
        rotate_left
        · simp only [Act.put, List.setIfInBounds_toArray, List.set_cons_zero, List.set_cons_succ]
          rfl
        refine pure_ (i := 11) (N := some 145) (v := ?_) (a' := ?_) (fl 26 4095) rfl rfl (any_of HT_.out (by kernel_rfl)) (fun _ _ _ h => by first | exact h | cases h.1) (Or.inl ⟨by rfl, ?_⟩) ?_ ?_
        rotate_left
        · intro w'
          go_simp
          with_reducible rfl
        rotate_left
        · simp only [Act.put, List.setIfInBounds_toArray, List.set_cons_zero, List.set_cons_succ]
          rfl
        refine pure_ (i := 12) (N := some 146) (v := ?_) (a' := ?_) (fl 26 8191) rfl rfl (any_of HT_.out (by kernel_rfl)) (fun _ _ _ h => by first | exact h | cases h.1) (Or.inl ⟨by rfl, ?_⟩) ?_ ?_
        rotate_left
        · intro w'
          go_simp
          with_reducible rfl
        rotate_left
        · simp only [Act.put, List.setIfInBounds_toArray, List.set_cons_zero, List.set_cons_succ]
          rfl
        refine take_ (i := 13) (N := some 147) (v := ?_) (a' := ?_) (fl 26 16383) rfl rfl (take_ofW HT_.out HW_.out (by kernel_rfl)) (fun _ _ _ h => by first | exact h | cases h.1) (Or.inl ⟨by rfl, ?_⟩) hHeld ?_ ?_
        rotate_left
        · rintro w' ⟨s0, s1, s2, s3, s4⟩
          have qa0 : w'.cell? ⟨bf, 0, none⟩ = some (.int .i64 u.f0) := blk_cell s0 0
          have qa1 : w'.cell? ⟨bf, 1, none⟩ = some (.int .i64 u.f1) := blk_cell s0 1
          have qa2 : w'.cell? ⟨bf, 2, none⟩ = some (.int .i64 u.f2) := blk_cell s0 2
          have qa3 : w'.cell? ⟨bf, 3, none⟩ = some (.slice Aa u.f3.length ca) := blk_cell s0 3
          go_simp
          with_reducible rfl
        rotate_left
        · simp only [Act.put, List.setIfInBounds_toArray, List.set_cons_zero, List.set_cons_succ]
          rfl
        refine pure_ (i := 14) (N := some 148) (v := ?_) (a' := ?_) (fl 26 32767) rfl rfl (any_of HT_.out (by kernel_rfl)) (fun _ _ _ h => by first | exact h | cases h.1) (Or.inl ⟨by rfl, ?_⟩) ?_ ?_
        rotate_left
        · intro w'
          go_simp
          with_reducible rfl
        rotate_left
        · simp only [Act.put, List.setIfInBounds_toArray, List.set_cons_zero, List.set_cons_succ]
          rfl
        refine pure_ (i := 15) (N := some 149) (v := ?_) (a' := ?_) (fl 26 65535) rfl rfl (any_of HT_.out (by kernel_rfl)) (fun _ _ _ h => by first | exact h | cases h.1) (Or.inl ⟨by rfl, ?_⟩) ?_ ?_
        rotate_left
        · intro w'
          go_simp
          with_reducible rfl
        rotate_left
        · simp only [Act.put, List.setIfInBounds_toArray, List.set_cons_zero, List.set_cons_succ]
          rfl
        refine take_ (i := 16) (N := some 150) (v := ?_) (a' := ?_) (fl 26 131071) rfl rfl (take_ofW HT_.out HW_.out (by kernel_rfl)) (fun _ _ _ h => by first | exact h | cases h.1) (Or.inl ⟨by rfl, ?_⟩) hHeld ?_ ?_
        rotate_left
        · rintro w' ⟨s0, s1, s2, s3, s4⟩
          go_simp
          with_reducible rfl
        rotate_left
        · simp only [Act.put, List.setIfInBounds_toArray, List.set_cons_zero, List.set_cons_succ]
          rfl
        refine one_ (i := 17) (N := some 151) (fl 26 262143) rfl rfl (one_of HT_.out (by kernel_rfl)) (by decide) (fun K hK => ?_)
        refine goes_ Try.func20 (by kernel_rfl) rfl #[.agg #[.int .i64 u.f0, .int .i64 u.f1, .int .i64 u.f2, .slice Aa u.f3.length ca], .agg #[.int .i64 u.f0, .int .i64 u.f1, .int .i64 u.f2, .slice A9 u.f3.length c9]] (by rfl) rfl rfl (by (try simp only [List.map_toArray, List.map_cons, List.map_nil, List.append_toArray, List.cons_append, List.nil_append]); first | done | rfl) ?_
        refine (one.calls _ u u Aa ca A9 c9 HA.out.ga HA.out.ha H3'.out.2 H3'.out.1).mono ?_
        rintro e w90 ⟨rfl, hb⟩
        rw [eqL_refl]
        have HZ := Aside0.mk (And.intro (HA.out.step hb).ba (And.intro (HA.out.step hb).rq (Kd.C_below H15'.out.1 hb)))
        refine ⟨_, rfl, hK.out _ _ ⟨(HA.out.step hb).ka, pw_cell_below hb hHeld.2.1, pw_cell_below hb hHeld.2.2.1, pw_cell_below hb hHeld.2.2.2.1, pw_cell_below hb hHeld.2.2.2.2⟩ (fun hHeld => ?_)⟩
        clear hK K hb H3' HA
        refine norm_ (a' := ?_) ?_ ?_
        rotate_left
        · show Act.put _ (some 151) _ = _
          simp only [Act.put, List.setIfInBounds_toArray, List.set_cons_zero, List.set_cons_succ]
          rfl
        refine pure_ (i := 18) (N := some 152) (v := ?_) (a' := ?_) (fl 26 524287) rfl rfl (any_of HT_.out (by kernel_rfl)) (fun _ _ _ h => by first | exact h | cases h.1) (Or.inl ⟨by rfl, ?_⟩) ?_ ?_
        rotate_left
        · intro w'
          go_simp
          with_reducible rfl
        rotate_left
        · simp only [Act.put, List.setIfInBounds_toArray, List.set_cons_zero, List.set_cons_succ]
          rfl
        refine pure_ (i := 19) (N := some 153) (v := ?_) (a' := ?_) (fl 26 1048575) rfl rfl (any_of HT_.out (by kernel_rfl)) (fun _ _ _ h => by first | exact h | cases h.1) (Or.inl ⟨by rfl, ?_⟩) ?_ ?_
        rotate_left
        · intro w'
          go_simp
          with_reducible rfl
        rotate_left
        · simp only [Act.put, List.setIfInBounds_toArray, List.set_cons_zero, List.set_cons_succ]
          rfl
        refine pure_ (i := 20) (N := some 154) (v := ?_) (a' := ?_) (fl 26 2097151) rfl rfl (any_of HT_.out (by kernel_rfl)) (fun _ _ _ h => by first | exact h | cases h.1) (Or.inl ⟨by rfl, ?_⟩) ?_ ?_
        rotate_left
        · intro w'
          go_simp
          with_reducible rfl
        rotate_left
        · simp only [Act.put, List.setIfInBounds_toArray, List.set_cons_zero, List.set_cons_succ]
          rfl
        refine pure_ (i := 21) (N := some 155) (v := ?_) (a' := ?_) (fl 26 4194303) rfl rfl (any_of HT_.out (by kernel_rfl)) (fun _ _ _ h => by first | exact h | cases h.1) (Or.inl ⟨by rfl, ?_⟩) ?_ ?_
        rotate_left
        · intro w'
          go_simp
          with_reducible rfl
        rotate_left
        · simp only [Act.put, List.setIfInBounds_toArray, List.set_cons_zero, List.set_cons_succ]
          rfl
        refine pure_ (i := 22) (N := some 156) (v := ?_) (a' := ?_) (fl 26 8388607) rfl rfl (any_of HT_.out (by kernel_rfl)) (fun _ _ _ h => by first | exact h | cases h.1) (Or.inl ⟨by rfl, ?_⟩) ?_ ?_
        rotate_left
        · intro w'
          go_simp
          with_reducible rfl
        rotate_left
        · simp only [Act.put, List.setIfInBounds_toArray, List.set_cons_zero, List.set_cons_succ]
          rfl
        refine one_ (i := 23) (N := some 157) (fl 26 16777215) rfl rfl (one_of HT_.out (by kernel_rfl)) (by decide) (fun K hK => ?_)
        refine goes_ Try.func17 (by kernel_rfl) rfl #[.slice Aq r.length cq, .slice A15 r.length c15] (by rfl) rfl rfl (by (try simp only [List.map_toArray, List.map_cons, List.map_nil, List.append_toArray, List.cons_append, List.nil_append]); first | done | rfl) ?_
        refine (sameC _ Aq cq A15 c15 r HZ.out.2.1 Lq.out HZ.out.2.2 H15'.out.2 HRL.out).mono ?_
        rintro e w91 ⟨rfl, hb⟩
        have HY := Aside0.mk (HZ.out.1.trans (hb.mono HZ.out.1.size))
        refine ⟨_, rfl, hK.out _ _ ⟨(hb.block _ (blk_lt hHeld.1)).trans hHeld.1, pw_cell_below hb hHeld.2.1, pw_cell_below hb hHeld.2.2.1, pw_cell_below hb hHeld.2.2.2.1, pw_cell_below hb hHeld.2.2.2.2⟩ (fun hHeld => ?_)⟩
        clear hK K hb HZ
        refine norm_ (a' := ?_) ?_ ?_
        rotate_left
        · show Act.put _ (some 157) _ = _
          simp only [Act.put, List.setIfInBounds_toArray, List.set_cons_zero, List.set_cons_succ]
          rfl
        refine pure_ (i := 24) (N := some 158) (v := ?_) (a' := ?_) (fl 26 33554431) rfl rfl (any_of HT_.out (by kernel_rfl)) (fun _ _ _ h => by first | exact h | cases h.1) (Or.inl ⟨by rfl, ?_⟩) ?_ ?_
        rotate_left
        · intro w'
          go_simp
          with_reducible rfl
        rotate_left
        · simp only [Act.put, List.setIfInBounds_toArray, List.set_cons_zero, List.set_cons_succ]
          rfl
        refine pure_ (i := 25) (N := some 8) (v := ?_) (a' := ?_) (fl 26 67108863) rfl rfl (any_of HT_.out (by kernel_rfl)) (fun _ _ _ h => by first | exact h | cases h.1) (Or.inl ⟨by rfl, ?_⟩) ?_ ?_
        rotate_left
        · intro w'
          go_simp
          with_reducible rfl
        rotate_left
        · simp only [Act.put, List.setIfInBounds_toArray, List.set_cons_zero, List.set_cons_succ]
          rfl
        refine done_ (done_of HT_.out (by kernel_rfl)) ?_
        clear hHeld
        try go_wp2
        go_ret
        exact ⟨rfl, HY.out⟩
theorem queueRight.walk (w : World) (A0 A1 A2 : Option Addr) (c0 c1 c2 : Nat) (x0 : List S25) (x1 x2 : S25) (a3 : Int)
    (hr0 : Kd.C k25 w A0 x0.length x0) (hc0 : x0.length ≤ c0) (w0 : x0.length ≤ maxLen ∧ x0.length * 48 ≤ 140737488351232 ∧ ∀ y_ ∈ x0, wf25 y_)
    (hr1 : Kd.C (Kd.int .u8) w A1 x1.f3.length x1.f3) (hc1 : x1.f3.length ≤ c1) (w1 : wf25 x1) (hr2 : Kd.C (Kd.int .u8) w A2 x2.f3.length x2.f3) (hc2 : x2.f3.length ≤ c2) (w2 : wf25 x2) (w3 : (Lit.int .i64 a3).wf = true) :
    Calls Try.prog 3 #[.slice A0 x0.length c0, .agg #[.int .i64 x1.f0, .int .i64 x1.f1, .int .i64 x1.f2, .slice A1 x1.f3.length c1], .agg #[.int .i64 x2.f0, .int .i64 x2.f1, .int .i64 x2.f2, .slice A2 x2.f3.length c2], .int .i64 a3] w fun e w' => e = .returned (.bool true) ∧ Below w.heap.size w w' :=
  right.calls w A0 A1 A2 c0 c1 c2 x0 x1 x2 a3 hr0 hc0 hr1 hc1 hr2 hc2 (wfL.good w0) w1.good
end Go.Proofs.Ytghkngdcmlhmeaa.Qw

/- QueueParts: the walk. -/
import Derived.Test.YtghkngdcmlhmeaaQSpec
import Derived.Test.YtghkngdcmlhmeaaPQux11
import Derived.Test.YtghkngdcmlhmeaaPQux14
set_option linter.unusedVariables false
set_option linter.unusedSimpArgs false
set_option linter.unusedSectionVars false
namespace Go.Proofs.Ytghkngdcmlhmeaa.Qw
open Go Go.RowKit Go.Proofs Go.Proofs.Ytghkngdcmlhmeaa.PQu Go.Proofs.YtghkngdcmlhmeaaW.PrintWords Go.Proofs.YtghkngdcmlhmeaaW.PrintLast Go.Proofs.YtghkngdcmlhmeaaW.PrintMore Go.Proofs.Ytghkngdcmlhmeaa.Qp Go.Proofs.Ytghkngdcmlhmeaa.Qs Go.Proofs.Ytghkngdcmlhmeaa.Spec
theorem awakeC (w : World) : Calls Try.prog 8 #[] w fun e w' => e = .returned (.bool true) ∧ Below w.heap.size w w' := by
  obtain ⟨K, hK⟩ := Ev.of (fun k => affidavitlaw20_awake.mono k) (k := 8) (show affidavitlaw20_awake.f 8 = some true by decide +kernel)
  exact affidavitlaw20_awake.calls K true w (hK K (Nat.le_refl _))
theorem shortC (w : World) (A : Option Addr) (c : Nat) (l : List S25) (hr : Kd.C k25 w A l.length l) (hc : l.length ≤ c) : Calls Try.prog 9 #[.slice A l.length c] w fun e w' => e = .returned (.bool (shortB l)) ∧ Below w.heap.size w w' := by
  obtain ⟨K, hK⟩ := evShort l
  exact (affidavitref20_Short.calls K A c l _ w hr hc (hK K (Nat.le_refl _))).mono (fun e w' ⟨h1, h2⟩ => ⟨h1, h2.below⟩)
theorem less.calls (w : World) (x y : S25) (A2 : Option Addr) (c2 : Nat) (A3 : Option Addr) (c3 : Nat) (h2 : Kd.C (Kd.int .u8) w A2 x.f3.length x.f3) (l2 : x.f3.length ≤ c2) (h3 : Kd.C (Kd.int .u8) w A3 y.f3.length y.f3) (l3 : y.f3.length ≤ c3) :
    Calls Try.prog 15 #[.agg #[.int .i64 x.f0, .int .i64 x.f1, .int .i64 x.f2, .slice A2 x.f3.length c2], .agg #[.int .i64 y.f0, .int .i64 y.f1, .int .i64 y.f2, .slice A3 y.f3.length c3]] w fun e w' => e = .returned (.bool (ltL x y)) ∧ Below w.heap.size w w' := by
  obtain ⟨K, hK⟩ := evLess x y
  exact queue_Less.calls K _ _ _ A2 c2 _ _ _ _ A3 c3 _ _ w h2 l2 h3 l3 (hK K (Nat.le_refl _))
theorem one.calls (w : World) (x y : S25) (A2 : Option Addr) (c2 : Nat) (A3 : Option Addr) (c3 : Nat) (h2 : Kd.C (Kd.int .u8) w A2 x.f3.length x.f3) (l2 : x.f3.length ≤ c2) (h3 : Kd.C (Kd.int .u8) w A3 y.f3.length y.f3) (l3 : y.f3.length ≤ c3) :
    Calls Try.prog 20 #[.agg #[.int .i64 x.f0, .int .i64 x.f1, .int .i64 x.f2, .slice A2 x.f3.length c2], .agg #[.int .i64 y.f0, .int .i64 y.f1, .int .i64 y.f2, .slice A3 y.f3.length c3]] w fun e w' => e = .returned (.bool (eqL x y)) ∧ Below w.heap.size w w' :=
  affidavitref20_One.calls _ _ _ A2 c2 _ _ _ _ A3 c3 _ _ w h2 l2 h3 l3 (one_spec x y)
theorem sameC (w : World) (A : Option Addr) (c : Nat) (B : Option Addr) (d : Nat) (l : List S25) (hr : Kd.C k25 w A l.length l) (hc : l.length ≤ c) (hr2 : Kd.C k25 w B l.length l) (hc2 : l.length ≤ d) (hl : l.length < 1099511627776) : Calls Try.prog 17 #[.slice A l.length c, .slice B l.length d] w fun e w' => e = .returned (.bool true) ∧ Below w.heap.size w w' := by
  obtain ⟨K, hK⟩ := evSame l hl
  exact affidavitref20_Same.calls K A c l B d l true w hr hc hr2 hc2 (hK K (Nat.le_refl _))
theorem nextC (w : World) (A : Option Addr) (c : Nat) (l : List S25) (hr : Kd.C k25 w A l.length l) (hc : l.length ≤ c) (h : bndB l = true) : Calls Try.prog 14 #[.slice A l.length c] w fun e w' => e = .returned (.tuple #[.int .i64 (firstT (Hp.srt ltL l)).1, .bool (firstT (Hp.srt ltL l)).2.2.2.2.2]) ∧ Below w.heap.size w w' :=
  queue_Next.calls A c l _ _ w hr hc (next_spec h)
theorem nextD (w : World) (A : Option Addr) (c : Nat) (l : List S25) (hr : Kd.C k25 w A l.length l) (hc : l.length ≤ c) (h : bndB l = true) (n : Int) (b : Bool) (h1 : (firstT (Hp.srt ltL l)).1 = n) (h2 : (firstT (Hp.srt ltL l)).2.2.2.2.2 = b) : Calls Try.prog 14 #[.slice A l.length c] w fun e w' => e = .returned (.tuple #[.int .i64 n, .bool b]) ∧ Below w.heap.size w w' := by
  subst h1 h2
  exact nextC w A c l hr hc h
theorem sortC (w : World) (A : Option Addr) (c : Nat) (l : List S25) (hr : Kd.C k25 w A l.length l) (hc : l.length ≤ c) (h : bndB l = true) : Calls Try.prog 18 #[.slice A l.length c] w fun e w' => ∃ B d, e = .returned (.slice B (Hp.srt ltL l).length d) ∧ (Hp.srt ltL l).length ≤ d ∧ Kd.C k25 w' B (Hp.srt ltL l).length (Hp.srt ltL l) ∧ Below w.heap.size w w' := by
  refine (sorted.calls A c l _ w hr hc (if_pos h)).mono ?_
  rintro e w' ⟨v, rfl, hv, hb⟩
  obtain ⟨B, d, rfl⟩ := Kd.V_slice hv
  exact ⟨B, d, rfl, (Kd.V_reads' hv).2.1, (Kd.V_reads' hv).2.2, hb⟩
theorem putC (w : World) (A : Option Addr) (c : Nat) (l : List S25) (x : S25) (A3 : Option Addr) (c3 : Nat) (hr : Kd.C k25 w A l.length l) (hc : l.length ≤ c) (h3 : Kd.C (Kd.int .u8) w A3 x.f3.length x.f3) (l3 : x.f3.length ≤ c3) (h : bndB (x :: l) = true) : Calls Try.prog 19 #[.slice A l.length c, .agg #[.int .i64 x.f0, .int .i64 x.f1, .int .i64 x.f2, .slice A3 x.f3.length c3]] w fun e w' => ∃ B d, e = .returned (.slice B (Hp.srt ltL (x :: l)).length d) ∧ (Hp.srt ltL (x :: l)).length ≤ d ∧ Kd.C k25 w' B (Hp.srt ltL (x :: l)).length (Hp.srt ltL (x :: l)) ∧ Below w.heap.size w w' := by
  refine (put.calls A c l x A3 c3 _ w hr hc h3 l3 (if_pos h)).mono ?_
  rintro e w' ⟨v, rfl, hv, hb⟩
  obtain ⟨B, d, rfl⟩ := Kd.V_slice hv
  exact ⟨B, d, rfl, (Kd.V_reads' hv).2.1, (Kd.V_reads' hv).2.2, hb⟩
def dueD (l : List S25) (now : Int) : List S25 := (Hp.srt ltL l).filter (fun x => decide (x.f0 ≤ now))
def dueR (l : List S25) (now : Int) : List S25 := (Hp.srt ltL l).filter (fun x => !decide (x.f0 ≤ now))
theorem dueC (w : World) (A : Option Addr) (c : Nat) (l : List S25) (now : Int) (hr : Kd.C k25 w A l.length l) (hc : l.length ≤ c) (h : bndB l = true) : Calls Try.prog 11 #[.slice A l.length c, .int .i64 now] w fun e w' => ∃ B d B' d', e = .returned (.tuple #[.slice B (dueD l now).length d, .slice B' (dueR l now).length d']) ∧ (dueD l now).length ≤ d ∧ (dueR l now).length ≤ d' ∧ Kd.C k25 w' B (dueD l now).length (dueD l now) ∧ Kd.C k25 w' B' (dueR l now).length (dueR l now) ∧ Below w.heap.size w w' := by
  refine (due.calls A c l now _ w hr hc (if_pos h)).mono ?_
  rintro e w' ⟨v, v', rfl, hv, hv', hb⟩
  obtain ⟨B, d, rfl⟩ := Kd.V_slice hv
  obtain ⟨B', d', rfl⟩ := Kd.V_slice hv'
  exact ⟨B, d, B', d', rfl, (Kd.V_reads' hv).2.1, (Kd.V_reads' hv').2.1, (Kd.V_reads' hv).2.2, (Kd.V_reads' hv').2.2, hb⟩
structure At1 (w W : World) (A0 A1 A2 A3 A4 : Option Addr) (c2 c3 c4 : Nat) (la lb : List S25) (x y z : S25) (bx by_ bz : Nat) : Prop where
  ba : Below w.heap.size w W
  ra : Kd.C k25 W A0 la.length la
  rb : Kd.C k25 W A1 lb.length lb
  rx : Kd.C (Kd.int .u8) W A2 x.f3.length x.f3
  lx : x.f3.length ≤ c2
  kx : W.heap[bx]? = some (.cells #[.int .i64 x.f0, .int .i64 x.f1, .int .i64 x.f2, .slice A2 x.f3.length c2] 25 (0, 0))
  ry : Kd.C (Kd.int .u8) W A3 y.f3.length y.f3
  ly : y.f3.length ≤ c3
  ky : W.heap[by_]? = some (.cells #[.int .i64 y.f0, .int .i64 y.f1, .int .i64 y.f2, .slice A3 y.f3.length c3] 25 (0, 0))
  rz : Kd.C (Kd.int .u8) W A4 z.f3.length z.f3
  lz : z.f3.length ≤ c4
  kz : W.heap[bz]? = some (.cells #[.int .i64 z.f0, .int .i64 z.f1, .int .i64 z.f2, .slice A4 z.f3.length c4] 25 (0, 0))
theorem At1.step {w W W' : World} {A0 A1 A2 A3 A4 : Option Addr} {c2 c3 c4 : Nat} {la lb : List S25} {x y z : S25} {bx by_ bz : Nat} (h : At1 w W A0 A1 A2 A3 A4 c2 c3 c4 la lb x y z bx by_ bz) (hb : Below W.heap.size W W') : At1 w W' A0 A1 A2 A3 A4 c2 c3 c4 la lb x y z bx by_ bz :=
  ⟨h.ba.trans (hb.mono h.ba.size), Kd.C_below h.ra hb, Kd.C_below h.rb hb, Kd.C_below h.rx hb, h.lx, (hb.block _ (blk_lt h.kx)).trans h.kx, Kd.C_below h.ry hb, h.ly, (hb.block _ (blk_lt h.ky)).trans h.ky, Kd.C_below h.rz hb, h.lz, (hb.block _ (blk_lt h.kz)).trans h.kz⟩
theorem srt_same {l m : List S25} (hg : ∀ x ∈ l, good x) (h : l.Perm m) : Hp.srt ltL l = Hp.srt ltL m :=
  one_order (fun x hx => hg x ((Hp.srt_perm l).mem_iff.mp hx)) (Hp.srt_sorted lt_asym lt_trans' l) (Hp.srt_sorted lt_asym lt_trans' m) ((Hp.srt_perm l).trans (h.trans (Hp.srt_perm m).symm))
theorem short_iff {l : List S25} (h : shortB l = true) : l.length ≤ 40 := by
  unfold shortB at h
  rw [Bool.and_eq_true, decide_eq_true_iff] at h
  exact h.1
theorem lt_lt {x y z : S25} (h1 : ltL x y = true) (h2 : ltL y z = true) : ltL x z = true := by
  cases h : ltL x z with
  | true => rfl
  | false =>
    have h3 := lt_trans' y z x (lt_asym _ _ h2) h
    rw [h1] at h3
    exact h3.symm
theorem same_of {x y : S25} (gx : good x) (gy : good y) (h1 : ltL x y = false) (h2 : ltL y x = false) : eqL x y = true := by
  rw [eqL_iff gx gy]
  rw [ltL_eq] at h1 h2
  have h1' := of_decide_eq_false h1
  have h2' := of_decide_eq_false h2
  have n := cmp_cm.neg x y
  exact cm_zero gx gy (by omega)
theorem due_split (l : List S25) (now : Int) : (dueD l now).length + (dueR l now).length = l.length := by
  unfold dueD dueR
  rw [← (Hp.srt_perm (lt := ltL) l).length_eq, ← List.length_append, (due_parts now (Hp.srt_sorted lt_asym lt_trans' l))]
set_option maxHeartbeats 8000000 in
set_option maxRecDepth 100000 in
theorem parts.calls (w : World) (A0 A1 A2 A3 A4 : Option Addr) (c0 c1 c2 c3 c4 : Nat) (la lb : List S25) (x y z : S25)
    (hra : Kd.C k25 w A0 la.length la) (hca : la.length ≤ c0) (hrb : Kd.C k25 w A1 lb.length lb) (hcb : lb.length ≤ c1)
    (hrx : Kd.C (Kd.int .u8) w A2 x.f3.length x.f3) (hlx : x.f3.length ≤ c2) (hry : Kd.C (Kd.int .u8) w A3 y.f3.length y.f3) (hly : y.f3.length ≤ c3) (hrz : Kd.C (Kd.int .u8) w A4 z.f3.length z.f3) (hlz : z.f3.length ≤ c4)
    (ga : ∀ u ∈ la, good u) (gb : ∀ u ∈ lb, good u) (gx : good x) (gy : good y) :
    Calls Try.prog 5 #[.slice A0 la.length c0, .slice A1 lb.length c1, .agg #[.int .i64 x.f0, .int .i64 x.f1, .int .i64 x.f2, .slice A2 x.f3.length c2], .agg #[.int .i64 y.f0, .int .i64 y.f1, .int .i64 y.f2, .slice A3 y.f3.length c3], .agg #[.int .i64 z.f0, .int .i64 z.f1, .int .i64 z.f2, .slice A4 z.f3.length c4]] w fun e w' => e = .returned (.bool true) ∧ Below w.heap.size w w' := by
  have hu25 := Try.underlying25
  have HA := Aside0.mk (And.intro hra (And.intro hrb (And.intro hrx (And.intro hry hrz))))
  have HL := Aside0.mk (And.intro hca (And.intro hcb (And.intro hlx (And.intro hly hlz))))
  have HG := Aside0.mk (And.intro ga (And.intro gb (And.intro gx gy)))
  clear hra hca hrb hcb hrx hlx hry hly hrz hlz ga gb gx gy
  go_enter Try.func5, Try.ntmps5
  go_wp2_with ((with_reducible refine gate_dst (N := 7) rfl ?_); refine Aside0.out (p := _) ?_)
  refine Aside0.mk ?_
  refine box_event (by rfl) (N := 7) rfl (cs := #[.int .i64 x.f0, .int .i64 x.f1, .int .i64 x.f2, .slice A2 x.f3.length c2]) (t := 25) ?hr ?_
  case hr => first | (go_simp; done) | (go_simp; rfl)
  intro bx hbx v1 kx hb1
  clear hbx
  have Hx := Aside0.mk kx
  have HB1 := Aside0.mk hb1
  clear kx hb1
  go_wp2_with ((with_reducible refine gate_dst (N := 8) rfl ?_); refine Aside0.out (p := _) ?_)
  refine Aside0.mk ?_
  refine box_event (by rfl) (N := 8) rfl (cs := #[.int .i64 y.f0, .int .i64 y.f1, .int .i64 y.f2, .slice A3 y.f3.length c3]) (t := 25) ?hr ?_
  case hr => first | (go_simp; done) | (go_simp; rfl)
  intro by_ hby_ v2 ky hb2
  clear hby_
  have Hy := Aside0.mk ky
  have HB2 := Aside0.mk hb2
  clear ky hb2
  go_wp2_with ((with_reducible refine gate_dst (N := 9) rfl ?_); refine Aside0.out (p := _) ?_)
  refine Aside0.mk ?_
  refine box_event (by rfl) (N := 9) rfl (cs := #[.int .i64 z.f0, .int .i64 z.f1, .int .i64 z.f2, .slice A4 z.f3.length c4]) (t := 25) ?hr ?_
  case hr => first | (go_simp; done) | (go_simp; rfl)
  intro bz hbz v3 kz hb3
  clear hbz
  have Hz := Aside0.mk kz
  have HB3 := Aside0.mk hb3
  clear kz hb3
  have HT : Aside0 (At1 w v3 A0 A1 A2 A3 A4 c2 c3 c4 la lb x y z bx by_ bz) := by
    have b1 : Below w.heap.size w v1 := HB1.out
    have b2 : Below w.heap.size w v2 := b1.trans (HB2.out.mono b1.size)
    have b3 : Below w.heap.size w v3 := b2.trans (HB3.out.mono b2.size)
    refine ⟨b3, Kd.C_below HA.out.1 b3, Kd.C_below HA.out.2.1 b3, Kd.C_below HA.out.2.2.1 b3, HL.out.2.2.1, ?_, Kd.C_below HA.out.2.2.2.1 b3, HL.out.2.2.2.1, ?_, Kd.C_below HA.out.2.2.2.2 b3, HL.out.2.2.2.2, Hz.out⟩
    · exact (HB3.out.block _ (blk_lt ((HB2.out.block _ (blk_lt Hx.out)).trans Hx.out))).trans ((HB2.out.block _ (blk_lt Hx.out)).trans Hx.out)
    · exact (HB3.out.block _ (blk_lt Hy.out)).trans Hy.out
  clear HA Hx Hy Hz HB1 HB2 HB3
  go_wp2_with ((with_reducible refine gate_dst (N := 20) rfl ?_); refine Aside0.out (p := _) ?_)
  refine Aside0.mk ?_
  refine goesL_ (some 20) rfl rfl Try.func8 (by kernel_rfl) rfl #[] rfl (by (try simp only [List.map_toArray, List.map_cons, List.map_nil, List.append_toArray, List.cons_append, List.nil_append]); first | done | rfl) ?_
  refine (awakeC _).mono ?_
  rintro e w2 ⟨rfl, hb⟩
  refine ⟨_, rfl, ?_⟩
  have n0_ := Aside0.mk (HT.out.step hb)
  clear hb HT
  have HT := n0_
  clear n0_
  go_wp2_with ((with_reducible refine gate_dst (N := 23) rfl ?_); refine Aside0.out (p := _) ?_)
  refine Aside0.mk ?_
  refine goesL_ (some 23) rfl rfl Try.func9 (by kernel_rfl) rfl #[.slice A0 la.length c0] rfl (by (try simp only [List.map_toArray, List.map_cons, List.map_nil, List.append_toArray, List.cons_append, List.nil_append]); first | done | rfl) ?_
  refine (shortC _ A0 c0 la HT.out.ra HL.out.1).mono ?_
  rintro e w3 ⟨rfl, hb⟩
  refine ⟨_, rfl, ?_⟩
  have n0_ := Aside0.mk (HT.out.step hb)
  clear hb HT
  have HT := n0_
  clear n0_
  cases hsa : shortB la with
  | false =>
    go_wp2
    go_ret
    exact ⟨rfl, HT.out.ba⟩
  | true =>
    go_wp2_with ((with_reducible refine gate_dst (N := 27) rfl ?_); refine Aside0.out (p := _) ?_)
    refine Aside0.mk ?_
    refine gate_guard (by rfl) ?_
    dsimp only
    refine goesL_ (some 27) rfl rfl Try.func9 (by kernel_rfl) rfl #[.slice A1 lb.length c1] rfl (by (try simp only [List.map_toArray, List.map_cons, List.map_nil, List.append_toArray, List.cons_append, List.nil_append]); first | done | rfl) ?_
    refine (shortC _ A1 c1 lb HT.out.rb HL.out.2.1).mono ?_
    rintro e w4 ⟨rfl, hb⟩
    refine ⟨_, rfl, ?_⟩
    have n0_ := Aside0.mk (HT.out.step hb)
    clear hb HT
    have HT := n0_
    clear n0_
    cases hsb : shortB lb with
    | false =>
      go_wp2
      go_ret
      exact ⟨rfl, HT.out.ba⟩
    | true =>
      have HS := Aside0.mk (And.intro (short_iff hsa) (short_iff hsb))
      clear hsa hsb
      go_upto_region 5 with fail
      go_cut [71] (fun v71 wc => v71 = .bool false ∧ Aside0 (At1 w wc A0 A1 A2 A3 A4 c2 c3 c4 la lb x y z bx by_ bz))
      case first =>
        cases hxy : ltL x y with
        | true =>
          have hyx := lt_asym _ _ hxy
          have qx0 : w4.cell? ⟨bx, 0, none⟩ = some (.int .i64 x.f0) := blk_cell HT.out.kx 0
          have qx1 : w4.cell? ⟨bx, 1, none⟩ = some (.int .i64 x.f1) := blk_cell HT.out.kx 1
          have qx2 : w4.cell? ⟨bx, 2, none⟩ = some (.int .i64 x.f2) := blk_cell HT.out.kx 2
          have qx3 : w4.cell? ⟨bx, 3, none⟩ = some (.slice A2 x.f3.length c2) := blk_cell HT.out.kx 3
          have qy0 : w4.cell? ⟨by_, 0, none⟩ = some (.int .i64 y.f0) := blk_cell HT.out.ky 0
          have qy1 : w4.cell? ⟨by_, 1, none⟩ = some (.int .i64 y.f1) := blk_cell HT.out.ky 1
          have qy2 : w4.cell? ⟨by_, 2, none⟩ = some (.int .i64 y.f2) := blk_cell HT.out.ky 2
          have qy3 : w4.cell? ⟨by_, 3, none⟩ = some (.slice A3 y.f3.length c3) := blk_cell HT.out.ky 3
          have qz0 : w4.cell? ⟨bz, 0, none⟩ = some (.int .i64 z.f0) := blk_cell HT.out.kz 0
          have qz1 : w4.cell? ⟨bz, 1, none⟩ = some (.int .i64 z.f1) := blk_cell HT.out.kz 1
          have qz2 : w4.cell? ⟨bz, 2, none⟩ = some (.int .i64 z.f2) := blk_cell HT.out.kz 2
          have qz3 : w4.cell? ⟨bz, 3, none⟩ = some (.slice A4 z.f3.length c4) := blk_cell HT.out.kz 3
          go_wp2_with ((with_reducible refine gate_dst (N := 32) rfl ?_); refine Aside0.out (p := _) ?_)
          refine Aside0.mk ?_
          refine goesL_ (some 32) rfl rfl Try.func15 (by kernel_rfl) rfl #[.agg #[.int .i64 x.f0, .int .i64 x.f1, .int .i64 x.f2, .slice A2 x.f3.length c2], .agg #[.int .i64 y.f0, .int .i64 y.f1, .int .i64 y.f2, .slice A3 y.f3.length c3]] rfl (by (try simp only [List.map_toArray, List.map_cons, List.map_nil, List.append_toArray, List.cons_append, List.nil_append]); first | done | rfl) ?_
          clear qx0 qx1 qx2 qx3 qy0 qy1 qy2 qy3 qz0 qz1 qz2 qz3
          refine (less.calls _ x y A2 c2 A3 c3 HT.out.rx HT.out.lx HT.out.ry HT.out.ly).mono ?_
          rintro e w5 ⟨rfl, hb⟩
          rw [hxy]
          refine ⟨_, rfl, ?_⟩
          have n0_ := Aside0.mk (HT.out.step hb)
          clear hb HT
          have HT := n0_
          clear n0_
          have qx0 : w5.cell? ⟨bx, 0, none⟩ = some (.int .i64 x.f0) := blk_cell HT.out.kx 0
          have qx1 : w5.cell? ⟨bx, 1, none⟩ = some (.int .i64 x.f1) := blk_cell HT.out.kx 1
          have qx2 : w5.cell? ⟨bx, 2, none⟩ = some (.int .i64 x.f2) := blk_cell HT.out.kx 2
          have qx3 : w5.cell? ⟨bx, 3, none⟩ = some (.slice A2 x.f3.length c2) := blk_cell HT.out.kx 3
          have qy0 : w5.cell? ⟨by_, 0, none⟩ = some (.int .i64 y.f0) := blk_cell HT.out.ky 0
          have qy1 : w5.cell? ⟨by_, 1, none⟩ = some (.int .i64 y.f1) := blk_cell HT.out.ky 1
          have qy2 : w5.cell? ⟨by_, 2, none⟩ = some (.int .i64 y.f2) := blk_cell HT.out.ky 2
          have qy3 : w5.cell? ⟨by_, 3, none⟩ = some (.slice A3 y.f3.length c3) := blk_cell HT.out.ky 3
          have qz0 : w5.cell? ⟨bz, 0, none⟩ = some (.int .i64 z.f0) := blk_cell HT.out.kz 0
          have qz1 : w5.cell? ⟨bz, 1, none⟩ = some (.int .i64 z.f1) := blk_cell HT.out.kz 1
          have qz2 : w5.cell? ⟨bz, 2, none⟩ = some (.int .i64 z.f2) := blk_cell HT.out.kz 2
          have qz3 : w5.cell? ⟨bz, 3, none⟩ = some (.slice A4 z.f3.length c4) := blk_cell HT.out.kz 3
          go_wp2_with ((with_reducible refine gate_dst (N := 36) rfl ?_); refine Aside0.out (p := _) ?_)
          refine Aside0.mk ?_
          refine gate_guard (by rfl) ?_
          dsimp only
          refine goesL_ (some 36) rfl rfl Try.func15 (by kernel_rfl) rfl #[.agg #[.int .i64 y.f0, .int .i64 y.f1, .int .i64 y.f2, .slice A3 y.f3.length c3], .agg #[.int .i64 x.f0, .int .i64 x.f1, .int .i64 x.f2, .slice A2 x.f3.length c2]] rfl (by (try simp only [List.map_toArray, List.map_cons, List.map_nil, List.append_toArray, List.cons_append, List.nil_append]); first | done | rfl) ?_
          clear qx0 qx1 qx2 qx3 qy0 qy1 qy2 qy3 qz0 qz1 qz2 qz3
          refine (less.calls _ y x A3 c3 A2 c2 HT.out.ry HT.out.ly HT.out.rx HT.out.lx).mono ?_
          rintro e w6 ⟨rfl, hb⟩
          rw [hyx]
          refine ⟨_, rfl, ?_⟩
          have n0_ := Aside0.mk (HT.out.step hb)
          clear hb HT
          have HT := n0_
          clear n0_
          have qx0 : w6.cell? ⟨bx, 0, none⟩ = some (.int .i64 x.f0) := blk_cell HT.out.kx 0
          have qx1 : w6.cell? ⟨bx, 1, none⟩ = some (.int .i64 x.f1) := blk_cell HT.out.kx 1
          have qx2 : w6.cell? ⟨bx, 2, none⟩ = some (.int .i64 x.f2) := blk_cell HT.out.kx 2
          have qx3 : w6.cell? ⟨bx, 3, none⟩ = some (.slice A2 x.f3.length c2) := blk_cell HT.out.kx 3
          have qy0 : w6.cell? ⟨by_, 0, none⟩ = some (.int .i64 y.f0) := blk_cell HT.out.ky 0
          have qy1 : w6.cell? ⟨by_, 1, none⟩ = some (.int .i64 y.f1) := blk_cell HT.out.ky 1
          have qy2 : w6.cell? ⟨by_, 2, none⟩ = some (.int .i64 y.f2) := blk_cell HT.out.ky 2
          have qy3 : w6.cell? ⟨by_, 3, none⟩ = some (.slice A3 y.f3.length c3) := blk_cell HT.out.ky 3
          have qz0 : w6.cell? ⟨bz, 0, none⟩ = some (.int .i64 z.f0) := blk_cell HT.out.kz 0
          have qz1 : w6.cell? ⟨bz, 1, none⟩ = some (.int .i64 z.f1) := blk_cell HT.out.kz 1
          have qz2 : w6.cell? ⟨bz, 2, none⟩ = some (.int .i64 z.f2) := blk_cell HT.out.kz 2
          have qz3 : w6.cell? ⟨bz, 3, none⟩ = some (.slice A4 z.f3.length c4) := blk_cell HT.out.kz 3
          go_wp2_with ((with_reducible refine gate_dst (N := 41) rfl ?_); refine Aside0.out (p := _) ?_)
          refine Aside0.mk ?_
          refine gate_guard (by rfl) ?_
          dsimp only
          refine goesL_ (some 41) rfl rfl Try.func15 (by kernel_rfl) rfl #[.agg #[.int .i64 x.f0, .int .i64 x.f1, .int .i64 x.f2, .slice A2 x.f3.length c2], .agg #[.int .i64 y.f0, .int .i64 y.f1, .int .i64 y.f2, .slice A3 y.f3.length c3]] rfl (by (try simp only [List.map_toArray, List.map_cons, List.map_nil, List.append_toArray, List.cons_append, List.nil_append]); first | done | rfl) ?_
          clear qx0 qx1 qx2 qx3 qy0 qy1 qy2 qy3 qz0 qz1 qz2 qz3
          refine (less.calls _ x y A2 c2 A3 c3 HT.out.rx HT.out.lx HT.out.ry HT.out.ly).mono ?_
          rintro e w7 ⟨rfl, hb⟩
          rw [hxy]
          refine ⟨_, rfl, ?_⟩
          have n0_ := Aside0.mk (HT.out.step hb)
          clear hb HT
          have HT := n0_
          clear n0_
          have qx0 : w7.cell? ⟨bx, 0, none⟩ = some (.int .i64 x.f0) := blk_cell HT.out.kx 0
          have qx1 : w7.cell? ⟨bx, 1, none⟩ = some (.int .i64 x.f1) := blk_cell HT.out.kx 1
          have qx2 : w7.cell? ⟨bx, 2, none⟩ = some (.int .i64 x.f2) := blk_cell HT.out.kx 2
          have qx3 : w7.cell? ⟨bx, 3, none⟩ = some (.slice A2 x.f3.length c2) := blk_cell HT.out.kx 3
          have qy0 : w7.cell? ⟨by_, 0, none⟩ = some (.int .i64 y.f0) := blk_cell HT.out.ky 0
          have qy1 : w7.cell? ⟨by_, 1, none⟩ = some (.int .i64 y.f1) := blk_cell HT.out.ky 1
          have qy2 : w7.cell? ⟨by_, 2, none⟩ = some (.int .i64 y.f2) := blk_cell HT.out.ky 2
          have qy3 : w7.cell? ⟨by_, 3, none⟩ = some (.slice A3 y.f3.length c3) := blk_cell HT.out.ky 3
          have qz0 : w7.cell? ⟨bz, 0, none⟩ = some (.int .i64 z.f0) := blk_cell HT.out.kz 0
          have qz1 : w7.cell? ⟨bz, 1, none⟩ = some (.int .i64 z.f1) := blk_cell HT.out.kz 1
          have qz2 : w7.cell? ⟨bz, 2, none⟩ = some (.int .i64 z.f2) := blk_cell HT.out.kz 2
          have qz3 : w7.cell? ⟨bz, 3, none⟩ = some (.slice A4 z.f3.length c4) := blk_cell HT.out.kz 3
          go_wp2_with ((with_reducible refine gate_dst (N := 45) rfl ?_); refine Aside0.out (p := _) ?_)
          refine Aside0.mk ?_
          refine gate_guard (by rfl) ?_
          dsimp only
          refine goesL_ (some 45) rfl rfl Try.func15 (by kernel_rfl) rfl #[.agg #[.int .i64 y.f0, .int .i64 y.f1, .int .i64 y.f2, .slice A3 y.f3.length c3], .agg #[.int .i64 z.f0, .int .i64 z.f1, .int .i64 z.f2, .slice A4 z.f3.length c4]] rfl (by (try simp only [List.map_toArray, List.map_cons, List.map_nil, List.append_toArray, List.cons_append, List.nil_append]); first | done | rfl) ?_
          clear qx0 qx1 qx2 qx3 qy0 qy1 qy2 qy3 qz0 qz1 qz2 qz3
          refine (less.calls _ y z A3 c3 A4 c4 HT.out.ry HT.out.ly HT.out.rz HT.out.lz).mono ?_
          rintro e w8 ⟨rfl, hb⟩
          refine ⟨_, rfl, ?_⟩
          have n0_ := Aside0.mk (HT.out.step hb)
          clear hb HT
          have HT := n0_
          clear n0_
          cases hyz : ltL y z with
          | true =>
            have hxz := lt_lt hxy hyz
            have qx0 : w8.cell? ⟨bx, 0, none⟩ = some (.int .i64 x.f0) := blk_cell HT.out.kx 0
            have qx1 : w8.cell? ⟨bx, 1, none⟩ = some (.int .i64 x.f1) := blk_cell HT.out.kx 1
            have qx2 : w8.cell? ⟨bx, 2, none⟩ = some (.int .i64 x.f2) := blk_cell HT.out.kx 2
            have qx3 : w8.cell? ⟨bx, 3, none⟩ = some (.slice A2 x.f3.length c2) := blk_cell HT.out.kx 3
            have qy0 : w8.cell? ⟨by_, 0, none⟩ = some (.int .i64 y.f0) := blk_cell HT.out.ky 0
            have qy1 : w8.cell? ⟨by_, 1, none⟩ = some (.int .i64 y.f1) := blk_cell HT.out.ky 1
            have qy2 : w8.cell? ⟨by_, 2, none⟩ = some (.int .i64 y.f2) := blk_cell HT.out.ky 2
            have qy3 : w8.cell? ⟨by_, 3, none⟩ = some (.slice A3 y.f3.length c3) := blk_cell HT.out.ky 3
            have qz0 : w8.cell? ⟨bz, 0, none⟩ = some (.int .i64 z.f0) := blk_cell HT.out.kz 0
            have qz1 : w8.cell? ⟨bz, 1, none⟩ = some (.int .i64 z.f1) := blk_cell HT.out.kz 1
            have qz2 : w8.cell? ⟨bz, 2, none⟩ = some (.int .i64 z.f2) := blk_cell HT.out.kz 2
            have qz3 : w8.cell? ⟨bz, 3, none⟩ = some (.slice A4 z.f3.length c4) := blk_cell HT.out.kz 3
            go_wp2_with ((with_reducible refine gate_dst (N := 50) rfl ?_); refine Aside0.out (p := _) ?_)
            refine Aside0.mk ?_
            refine gate_guard (by rfl) ?_
            dsimp only
            refine goesL_ (some 50) rfl rfl Try.func15 (by kernel_rfl) rfl #[.agg #[.int .i64 x.f0, .int .i64 x.f1, .int .i64 x.f2, .slice A2 x.f3.length c2], .agg #[.int .i64 z.f0, .int .i64 z.f1, .int .i64 z.f2, .slice A4 z.f3.length c4]] rfl (by (try simp only [List.map_toArray, List.map_cons, List.map_nil, List.append_toArray, List.cons_append, List.nil_append]); first | done | rfl) ?_
            clear qx0 qx1 qx2 qx3 qy0 qy1 qy2 qy3 qz0 qz1 qz2 qz3
            refine (less.calls _ x z A2 c2 A4 c4 HT.out.rx HT.out.lx HT.out.rz HT.out.lz).mono ?_
            rintro e w9 ⟨rfl, hb⟩
            rw [hxz]
            refine ⟨_, rfl, ?_⟩
            have n0_ := Aside0.mk (HT.out.step hb)
            clear hb HT
            have HT := n0_
            clear n0_
            have qx0 : w9.cell? ⟨bx, 0, none⟩ = some (.int .i64 x.f0) := blk_cell HT.out.kx 0
            have qx1 : w9.cell? ⟨bx, 1, none⟩ = some (.int .i64 x.f1) := blk_cell HT.out.kx 1
            have qx2 : w9.cell? ⟨bx, 2, none⟩ = some (.int .i64 x.f2) := blk_cell HT.out.kx 2
            have qx3 : w9.cell? ⟨bx, 3, none⟩ = some (.slice A2 x.f3.length c2) := blk_cell HT.out.kx 3
            have qy0 : w9.cell? ⟨by_, 0, none⟩ = some (.int .i64 y.f0) := blk_cell HT.out.ky 0
            have qy1 : w9.cell? ⟨by_, 1, none⟩ = some (.int .i64 y.f1) := blk_cell HT.out.ky 1
            have qy2 : w9.cell? ⟨by_, 2, none⟩ = some (.int .i64 y.f2) := blk_cell HT.out.ky 2
            have qy3 : w9.cell? ⟨by_, 3, none⟩ = some (.slice A3 y.f3.length c3) := blk_cell HT.out.ky 3
            have qz0 : w9.cell? ⟨bz, 0, none⟩ = some (.int .i64 z.f0) := blk_cell HT.out.kz 0
            have qz1 : w9.cell? ⟨bz, 1, none⟩ = some (.int .i64 z.f1) := blk_cell HT.out.kz 1
            have qz2 : w9.cell? ⟨bz, 2, none⟩ = some (.int .i64 z.f2) := blk_cell HT.out.kz 2
            have qz3 : w9.cell? ⟨bz, 3, none⟩ = some (.slice A4 z.f3.length c4) := blk_cell HT.out.kz 3
            go_wp2_with ((with_reducible refine gate_dst (N := 57) rfl ?_); refine Aside0.out (p := _) ?_)
            refine Aside0.mk ?_
            refine gate_guard (by rfl) ?_
            dsimp only
            refine goesL_ (some 57) rfl rfl Try.func15 (by kernel_rfl) rfl #[.agg #[.int .i64 x.f0, .int .i64 x.f1, .int .i64 x.f2, .slice A2 x.f3.length c2], .agg #[.int .i64 y.f0, .int .i64 y.f1, .int .i64 y.f2, .slice A3 y.f3.length c3]] rfl (by (try simp only [List.map_toArray, List.map_cons, List.map_nil, List.append_toArray, List.cons_append, List.nil_append]); first | done | rfl) ?_
            clear qx0 qx1 qx2 qx3 qy0 qy1 qy2 qy3 qz0 qz1 qz2 qz3
            refine (less.calls _ x y A2 c2 A3 c3 HT.out.rx HT.out.lx HT.out.ry HT.out.ly).mono ?_
            rintro e w10 ⟨rfl, hb⟩
            rw [hxy]
            refine ⟨_, rfl, ?_⟩
            have n0_ := Aside0.mk (HT.out.step hb)
            clear hb HT
            have HT := n0_
            clear n0_
            have qx0 : w10.cell? ⟨bx, 0, none⟩ = some (.int .i64 x.f0) := blk_cell HT.out.kx 0
            have qx1 : w10.cell? ⟨bx, 1, none⟩ = some (.int .i64 x.f1) := blk_cell HT.out.kx 1
            have qx2 : w10.cell? ⟨bx, 2, none⟩ = some (.int .i64 x.f2) := blk_cell HT.out.kx 2
            have qx3 : w10.cell? ⟨bx, 3, none⟩ = some (.slice A2 x.f3.length c2) := blk_cell HT.out.kx 3
            have qy0 : w10.cell? ⟨by_, 0, none⟩ = some (.int .i64 y.f0) := blk_cell HT.out.ky 0
            have qy1 : w10.cell? ⟨by_, 1, none⟩ = some (.int .i64 y.f1) := blk_cell HT.out.ky 1
            have qy2 : w10.cell? ⟨by_, 2, none⟩ = some (.int .i64 y.f2) := blk_cell HT.out.ky 2
            have qy3 : w10.cell? ⟨by_, 3, none⟩ = some (.slice A3 y.f3.length c3) := blk_cell HT.out.ky 3
            have qz0 : w10.cell? ⟨bz, 0, none⟩ = some (.int .i64 z.f0) := blk_cell HT.out.kz 0
            have qz1 : w10.cell? ⟨bz, 1, none⟩ = some (.int .i64 z.f1) := blk_cell HT.out.kz 1
            have qz2 : w10.cell? ⟨bz, 2, none⟩ = some (.int .i64 z.f2) := blk_cell HT.out.kz 2
            have qz3 : w10.cell? ⟨bz, 3, none⟩ = some (.slice A4 z.f3.length c4) := blk_cell HT.out.kz 3
            go_wp2
            clear qx0 qx1 qx2 qx3 qy0 qy1 qy2 qy3 qz0 qz1 qz2 qz3
            go_meet
            case rel => exact ⟨rfl, HT⟩
          | false =>
            have qx0 : w8.cell? ⟨bx, 0, none⟩ = some (.int .i64 x.f0) := blk_cell HT.out.kx 0
            have qx1 : w8.cell? ⟨bx, 1, none⟩ = some (.int .i64 x.f1) := blk_cell HT.out.kx 1
            have qx2 : w8.cell? ⟨bx, 2, none⟩ = some (.int .i64 x.f2) := blk_cell HT.out.kx 2
            have qx3 : w8.cell? ⟨bx, 3, none⟩ = some (.slice A2 x.f3.length c2) := blk_cell HT.out.kx 3
            have qy0 : w8.cell? ⟨by_, 0, none⟩ = some (.int .i64 y.f0) := blk_cell HT.out.ky 0
            have qy1 : w8.cell? ⟨by_, 1, none⟩ = some (.int .i64 y.f1) := blk_cell HT.out.ky 1
            have qy2 : w8.cell? ⟨by_, 2, none⟩ = some (.int .i64 y.f2) := blk_cell HT.out.ky 2
            have qy3 : w8.cell? ⟨by_, 3, none⟩ = some (.slice A3 y.f3.length c3) := blk_cell HT.out.ky 3
            have qz0 : w8.cell? ⟨bz, 0, none⟩ = some (.int .i64 z.f0) := blk_cell HT.out.kz 0
            have qz1 : w8.cell? ⟨bz, 1, none⟩ = some (.int .i64 z.f1) := blk_cell HT.out.kz 1
            have qz2 : w8.cell? ⟨bz, 2, none⟩ = some (.int .i64 z.f2) := blk_cell HT.out.kz 2
            have qz3 : w8.cell? ⟨bz, 3, none⟩ = some (.slice A4 z.f3.length c4) := blk_cell HT.out.kz 3
            go_wp2_with ((with_reducible refine gate_dst (N := 57) rfl ?_); refine Aside0.out (p := _) ?_)
            refine Aside0.mk ?_
            refine gate_guard (by rfl) ?_
            dsimp only
            refine goesL_ (some 57) rfl rfl Try.func15 (by kernel_rfl) rfl #[.agg #[.int .i64 x.f0, .int .i64 x.f1, .int .i64 x.f2, .slice A2 x.f3.length c2], .agg #[.int .i64 y.f0, .int .i64 y.f1, .int .i64 y.f2, .slice A3 y.f3.length c3]] rfl (by (try simp only [List.map_toArray, List.map_cons, List.map_nil, List.append_toArray, List.cons_append, List.nil_append]); first | done | rfl) ?_
            clear qx0 qx1 qx2 qx3 qy0 qy1 qy2 qy3 qz0 qz1 qz2 qz3
            refine (less.calls _ x y A2 c2 A3 c3 HT.out.rx HT.out.lx HT.out.ry HT.out.ly).mono ?_
            rintro e w11 ⟨rfl, hb⟩
            rw [hxy]
            refine ⟨_, rfl, ?_⟩
            have n0_ := Aside0.mk (HT.out.step hb)
            clear hb HT
            have HT := n0_
            clear n0_
            have qx0 : w11.cell? ⟨bx, 0, none⟩ = some (.int .i64 x.f0) := blk_cell HT.out.kx 0
            have qx1 : w11.cell? ⟨bx, 1, none⟩ = some (.int .i64 x.f1) := blk_cell HT.out.kx 1
            have qx2 : w11.cell? ⟨bx, 2, none⟩ = some (.int .i64 x.f2) := blk_cell HT.out.kx 2
            have qx3 : w11.cell? ⟨bx, 3, none⟩ = some (.slice A2 x.f3.length c2) := blk_cell HT.out.kx 3
            have qy0 : w11.cell? ⟨by_, 0, none⟩ = some (.int .i64 y.f0) := blk_cell HT.out.ky 0
            have qy1 : w11.cell? ⟨by_, 1, none⟩ = some (.int .i64 y.f1) := blk_cell HT.out.ky 1
            have qy2 : w11.cell? ⟨by_, 2, none⟩ = some (.int .i64 y.f2) := blk_cell HT.out.ky 2
            have qy3 : w11.cell? ⟨by_, 3, none⟩ = some (.slice A3 y.f3.length c3) := blk_cell HT.out.ky 3
            have qz0 : w11.cell? ⟨bz, 0, none⟩ = some (.int .i64 z.f0) := blk_cell HT.out.kz 0
            have qz1 : w11.cell? ⟨bz, 1, none⟩ = some (.int .i64 z.f1) := blk_cell HT.out.kz 1
            have qz2 : w11.cell? ⟨bz, 2, none⟩ = some (.int .i64 z.f2) := blk_cell HT.out.kz 2
            have qz3 : w11.cell? ⟨bz, 3, none⟩ = some (.slice A4 z.f3.length c4) := blk_cell HT.out.kz 3
            go_wp2
            clear qx0 qx1 qx2 qx3 qy0 qy1 qy2 qy3 qz0 qz1 qz2 qz3
            go_meet
            case rel => exact ⟨rfl, HT⟩
        | false =>
          have qx0 : w4.cell? ⟨bx, 0, none⟩ = some (.int .i64 x.f0) := blk_cell HT.out.kx 0
          have qx1 : w4.cell? ⟨bx, 1, none⟩ = some (.int .i64 x.f1) := blk_cell HT.out.kx 1
          have qx2 : w4.cell? ⟨bx, 2, none⟩ = some (.int .i64 x.f2) := blk_cell HT.out.kx 2
          have qx3 : w4.cell? ⟨bx, 3, none⟩ = some (.slice A2 x.f3.length c2) := blk_cell HT.out.kx 3
          have qy0 : w4.cell? ⟨by_, 0, none⟩ = some (.int .i64 y.f0) := blk_cell HT.out.ky 0
          have qy1 : w4.cell? ⟨by_, 1, none⟩ = some (.int .i64 y.f1) := blk_cell HT.out.ky 1
          have qy2 : w4.cell? ⟨by_, 2, none⟩ = some (.int .i64 y.f2) := blk_cell HT.out.ky 2
          have qy3 : w4.cell? ⟨by_, 3, none⟩ = some (.slice A3 y.f3.length c3) := blk_cell HT.out.ky 3
          have qz0 : w4.cell? ⟨bz, 0, none⟩ = some (.int .i64 z.f0) := blk_cell HT.out.kz 0
          have qz1 : w4.cell? ⟨bz, 1, none⟩ = some (.int .i64 z.f1) := blk_cell HT.out.kz 1
          have qz2 : w4.cell? ⟨bz, 2, none⟩ = some (.int .i64 z.f2) := blk_cell HT.out.kz 2
          have qz3 : w4.cell? ⟨bz, 3, none⟩ = some (.slice A4 z.f3.length c4) := blk_cell HT.out.kz 3
          go_wp2_with ((with_reducible refine gate_dst (N := 32) rfl ?_); refine Aside0.out (p := _) ?_)
          refine Aside0.mk ?_
          refine goesL_ (some 32) rfl rfl Try.func15 (by kernel_rfl) rfl #[.agg #[.int .i64 x.f0, .int .i64 x.f1, .int .i64 x.f2, .slice A2 x.f3.length c2], .agg #[.int .i64 y.f0, .int .i64 y.f1, .int .i64 y.f2, .slice A3 y.f3.length c3]] rfl (by (try simp only [List.map_toArray, List.map_cons, List.map_nil, List.append_toArray, List.cons_append, List.nil_append]); first | done | rfl) ?_
          clear qx0 qx1 qx2 qx3 qy0 qy1 qy2 qy3 qz0 qz1 qz2 qz3
          refine (less.calls _ x y A2 c2 A3 c3 HT.out.rx HT.out.lx HT.out.ry HT.out.ly).mono ?_
          rintro e w12 ⟨rfl, hb⟩
          rw [hxy]
          refine ⟨_, rfl, ?_⟩
          have n0_ := Aside0.mk (HT.out.step hb)
          clear hb HT
          have HT := n0_
          clear n0_
          have qx0 : w12.cell? ⟨bx, 0, none⟩ = some (.int .i64 x.f0) := blk_cell HT.out.kx 0
          have qx1 : w12.cell? ⟨bx, 1, none⟩ = some (.int .i64 x.f1) := blk_cell HT.out.kx 1
          have qx2 : w12.cell? ⟨bx, 2, none⟩ = some (.int .i64 x.f2) := blk_cell HT.out.kx 2
          have qx3 : w12.cell? ⟨bx, 3, none⟩ = some (.slice A2 x.f3.length c2) := blk_cell HT.out.kx 3
          have qy0 : w12.cell? ⟨by_, 0, none⟩ = some (.int .i64 y.f0) := blk_cell HT.out.ky 0
          have qy1 : w12.cell? ⟨by_, 1, none⟩ = some (.int .i64 y.f1) := blk_cell HT.out.ky 1
          have qy2 : w12.cell? ⟨by_, 2, none⟩ = some (.int .i64 y.f2) := blk_cell HT.out.ky 2
          have qy3 : w12.cell? ⟨by_, 3, none⟩ = some (.slice A3 y.f3.length c3) := blk_cell HT.out.ky 3
          have qz0 : w12.cell? ⟨bz, 0, none⟩ = some (.int .i64 z.f0) := blk_cell HT.out.kz 0
          have qz1 : w12.cell? ⟨bz, 1, none⟩ = some (.int .i64 z.f1) := blk_cell HT.out.kz 1
          have qz2 : w12.cell? ⟨bz, 2, none⟩ = some (.int .i64 z.f2) := blk_cell HT.out.kz 2
          have qz3 : w12.cell? ⟨bz, 3, none⟩ = some (.slice A4 z.f3.length c4) := blk_cell HT.out.kz 3
          go_wp2_with ((with_reducible refine gate_dst (N := 41) rfl ?_); refine Aside0.out (p := _) ?_)
          refine Aside0.mk ?_
          refine gate_guard (by rfl) ?_
          dsimp only
          refine goesL_ (some 41) rfl rfl Try.func15 (by kernel_rfl) rfl #[.agg #[.int .i64 x.f0, .int .i64 x.f1, .int .i64 x.f2, .slice A2 x.f3.length c2], .agg #[.int .i64 y.f0, .int .i64 y.f1, .int .i64 y.f2, .slice A3 y.f3.length c3]] rfl (by (try simp only [List.map_toArray, List.map_cons, List.map_nil, List.append_toArray, List.cons_append, List.nil_append]); first | done | rfl) ?_
          clear qx0 qx1 qx2 qx3 qy0 qy1 qy2 qy3 qz0 qz1 qz2 qz3
          refine (less.calls _ x y A2 c2 A3 c3 HT.out.rx HT.out.lx HT.out.ry HT.out.ly).mono ?_
          rintro e w13 ⟨rfl, hb⟩
          rw [hxy]
          refine ⟨_, rfl, ?_⟩
          have n0_ := Aside0.mk (HT.out.step hb)
          clear hb HT
          have HT := n0_
          clear n0_
          have qx0 : w13.cell? ⟨bx, 0, none⟩ = some (.int .i64 x.f0) := blk_cell HT.out.kx 0
          have qx1 : w13.cell? ⟨bx, 1, none⟩ = some (.int .i64 x.f1) := blk_cell HT.out.kx 1
          have qx2 : w13.cell? ⟨bx, 2, none⟩ = some (.int .i64 x.f2) := blk_cell HT.out.kx 2
          have qx3 : w13.cell? ⟨bx, 3, none⟩ = some (.slice A2 x.f3.length c2) := blk_cell HT.out.kx 3
          have qy0 : w13.cell? ⟨by_, 0, none⟩ = some (.int .i64 y.f0) := blk_cell HT.out.ky 0
          have qy1 : w13.cell? ⟨by_, 1, none⟩ = some (.int .i64 y.f1) := blk_cell HT.out.ky 1
          have qy2 : w13.cell? ⟨by_, 2, none⟩ = some (.int .i64 y.f2) := blk_cell HT.out.ky 2
          have qy3 : w13.cell? ⟨by_, 3, none⟩ = some (.slice A3 y.f3.length c3) := blk_cell HT.out.ky 3
          have qz0 : w13.cell? ⟨bz, 0, none⟩ = some (.int .i64 z.f0) := blk_cell HT.out.kz 0
          have qz1 : w13.cell? ⟨bz, 1, none⟩ = some (.int .i64 z.f1) := blk_cell HT.out.kz 1
          have qz2 : w13.cell? ⟨bz, 2, none⟩ = some (.int .i64 z.f2) := blk_cell HT.out.kz 2
          have qz3 : w13.cell? ⟨bz, 3, none⟩ = some (.slice A4 z.f3.length c4) := blk_cell HT.out.kz 3
          go_wp2_with ((with_reducible refine gate_dst (N := 57) rfl ?_); refine Aside0.out (p := _) ?_)
          refine Aside0.mk ?_
          refine gate_guard (by rfl) ?_
          dsimp only
          refine goesL_ (some 57) rfl rfl Try.func15 (by kernel_rfl) rfl #[.agg #[.int .i64 x.f0, .int .i64 x.f1, .int .i64 x.f2, .slice A2 x.f3.length c2], .agg #[.int .i64 y.f0, .int .i64 y.f1, .int .i64 y.f2, .slice A3 y.f3.length c3]] rfl (by (try simp only [List.map_toArray, List.map_cons, List.map_nil, List.append_toArray, List.cons_append, List.nil_append]); first | done | rfl) ?_
          clear qx0 qx1 qx2 qx3 qy0 qy1 qy2 qy3 qz0 qz1 qz2 qz3
          refine (less.calls _ x y A2 c2 A3 c3 HT.out.rx HT.out.lx HT.out.ry HT.out.ly).mono ?_
          rintro e w14 ⟨rfl, hb⟩
          rw [hxy]
          refine ⟨_, rfl, ?_⟩
          have n0_ := Aside0.mk (HT.out.step hb)
          clear hb HT
          have HT := n0_
          clear n0_
          have qx0 : w14.cell? ⟨bx, 0, none⟩ = some (.int .i64 x.f0) := blk_cell HT.out.kx 0
          have qx1 : w14.cell? ⟨bx, 1, none⟩ = some (.int .i64 x.f1) := blk_cell HT.out.kx 1
          have qx2 : w14.cell? ⟨bx, 2, none⟩ = some (.int .i64 x.f2) := blk_cell HT.out.kx 2
          have qx3 : w14.cell? ⟨bx, 3, none⟩ = some (.slice A2 x.f3.length c2) := blk_cell HT.out.kx 3
          have qy0 : w14.cell? ⟨by_, 0, none⟩ = some (.int .i64 y.f0) := blk_cell HT.out.ky 0
          have qy1 : w14.cell? ⟨by_, 1, none⟩ = some (.int .i64 y.f1) := blk_cell HT.out.ky 1
          have qy2 : w14.cell? ⟨by_, 2, none⟩ = some (.int .i64 y.f2) := blk_cell HT.out.ky 2
          have qy3 : w14.cell? ⟨by_, 3, none⟩ = some (.slice A3 y.f3.length c3) := blk_cell HT.out.ky 3
          have qz0 : w14.cell? ⟨bz, 0, none⟩ = some (.int .i64 z.f0) := blk_cell HT.out.kz 0
          have qz1 : w14.cell? ⟨bz, 1, none⟩ = some (.int .i64 z.f1) := blk_cell HT.out.kz 1
          have qz2 : w14.cell? ⟨bz, 2, none⟩ = some (.int .i64 z.f2) := blk_cell HT.out.kz 2
          have qz3 : w14.cell? ⟨bz, 3, none⟩ = some (.slice A4 z.f3.length c4) := blk_cell HT.out.kz 3
          go_wp2_with ((with_reducible refine gate_dst (N := 62) rfl ?_); refine Aside0.out (p := _) ?_)
          refine Aside0.mk ?_
          refine gate_guard (by rfl) ?_
          dsimp only
          refine goesL_ (some 62) rfl rfl Try.func15 (by kernel_rfl) rfl #[.agg #[.int .i64 y.f0, .int .i64 y.f1, .int .i64 y.f2, .slice A3 y.f3.length c3], .agg #[.int .i64 x.f0, .int .i64 x.f1, .int .i64 x.f2, .slice A2 x.f3.length c2]] rfl (by (try simp only [List.map_toArray, List.map_cons, List.map_nil, List.append_toArray, List.cons_append, List.nil_append]); first | done | rfl) ?_
          clear qx0 qx1 qx2 qx3 qy0 qy1 qy2 qy3 qz0 qz1 qz2 qz3
          refine (less.calls _ y x A3 c3 A2 c2 HT.out.ry HT.out.ly HT.out.rx HT.out.lx).mono ?_
          rintro e w15 ⟨rfl, hb⟩
          refine ⟨_, rfl, ?_⟩
          have n0_ := Aside0.mk (HT.out.step hb)
          clear hb HT
          have HT := n0_
          clear n0_
          cases hyx : ltL y x with
          | true =>
            have qx0 : w15.cell? ⟨bx, 0, none⟩ = some (.int .i64 x.f0) := blk_cell HT.out.kx 0
            have qx1 : w15.cell? ⟨bx, 1, none⟩ = some (.int .i64 x.f1) := blk_cell HT.out.kx 1
            have qx2 : w15.cell? ⟨bx, 2, none⟩ = some (.int .i64 x.f2) := blk_cell HT.out.kx 2
            have qx3 : w15.cell? ⟨bx, 3, none⟩ = some (.slice A2 x.f3.length c2) := blk_cell HT.out.kx 3
            have qy0 : w15.cell? ⟨by_, 0, none⟩ = some (.int .i64 y.f0) := blk_cell HT.out.ky 0
            have qy1 : w15.cell? ⟨by_, 1, none⟩ = some (.int .i64 y.f1) := blk_cell HT.out.ky 1
            have qy2 : w15.cell? ⟨by_, 2, none⟩ = some (.int .i64 y.f2) := blk_cell HT.out.ky 2
            have qy3 : w15.cell? ⟨by_, 3, none⟩ = some (.slice A3 y.f3.length c3) := blk_cell HT.out.ky 3
            have qz0 : w15.cell? ⟨bz, 0, none⟩ = some (.int .i64 z.f0) := blk_cell HT.out.kz 0
            have qz1 : w15.cell? ⟨bz, 1, none⟩ = some (.int .i64 z.f1) := blk_cell HT.out.kz 1
            have qz2 : w15.cell? ⟨bz, 2, none⟩ = some (.int .i64 z.f2) := blk_cell HT.out.kz 2
            have qz3 : w15.cell? ⟨bz, 3, none⟩ = some (.slice A4 z.f3.length c4) := blk_cell HT.out.kz 3
            go_wp2
            clear qx0 qx1 qx2 qx3 qy0 qy1 qy2 qy3 qz0 qz1 qz2 qz3
            go_meet
            case rel => exact ⟨rfl, HT⟩
          | false =>
            have hq := same_of HG.out.2.2.1 HG.out.2.2.2 hxy hyx
            have qx0 : w15.cell? ⟨bx, 0, none⟩ = some (.int .i64 x.f0) := blk_cell HT.out.kx 0
            have qx1 : w15.cell? ⟨bx, 1, none⟩ = some (.int .i64 x.f1) := blk_cell HT.out.kx 1
            have qx2 : w15.cell? ⟨bx, 2, none⟩ = some (.int .i64 x.f2) := blk_cell HT.out.kx 2
            have qx3 : w15.cell? ⟨bx, 3, none⟩ = some (.slice A2 x.f3.length c2) := blk_cell HT.out.kx 3
            have qy0 : w15.cell? ⟨by_, 0, none⟩ = some (.int .i64 y.f0) := blk_cell HT.out.ky 0
            have qy1 : w15.cell? ⟨by_, 1, none⟩ = some (.int .i64 y.f1) := blk_cell HT.out.ky 1
            have qy2 : w15.cell? ⟨by_, 2, none⟩ = some (.int .i64 y.f2) := blk_cell HT.out.ky 2
            have qy3 : w15.cell? ⟨by_, 3, none⟩ = some (.slice A3 y.f3.length c3) := blk_cell HT.out.ky 3
            have qz0 : w15.cell? ⟨bz, 0, none⟩ = some (.int .i64 z.f0) := blk_cell HT.out.kz 0
            have qz1 : w15.cell? ⟨bz, 1, none⟩ = some (.int .i64 z.f1) := blk_cell HT.out.kz 1
            have qz2 : w15.cell? ⟨bz, 2, none⟩ = some (.int .i64 z.f2) := blk_cell HT.out.kz 2
            have qz3 : w15.cell? ⟨bz, 3, none⟩ = some (.slice A4 z.f3.length c4) := blk_cell HT.out.kz 3
            go_wp2_with ((with_reducible refine gate_dst (N := 68) rfl ?_); refine Aside0.out (p := _) ?_)
            refine Aside0.mk ?_
            refine gate_guard (by rfl) ?_
            dsimp only
            refine goesL_ (some 68) rfl rfl Try.func20 (by kernel_rfl) rfl #[.agg #[.int .i64 x.f0, .int .i64 x.f1, .int .i64 x.f2, .slice A2 x.f3.length c2], .agg #[.int .i64 y.f0, .int .i64 y.f1, .int .i64 y.f2, .slice A3 y.f3.length c3]] rfl (by (try simp only [List.map_toArray, List.map_cons, List.map_nil, List.append_toArray, List.cons_append, List.nil_append]); first | done | rfl) ?_
            clear qx0 qx1 qx2 qx3 qy0 qy1 qy2 qy3 qz0 qz1 qz2 qz3
            refine (one.calls _ x y A2 c2 A3 c3 HT.out.rx HT.out.lx HT.out.ry HT.out.ly).mono ?_
            rintro e w16 ⟨rfl, hb⟩
            rw [hq]
            refine ⟨_, rfl, ?_⟩
            have n0_ := Aside0.mk (HT.out.step hb)
            clear hb HT
            have HT := n0_
            clear n0_
            have qx0 : w16.cell? ⟨bx, 0, none⟩ = some (.int .i64 x.f0) := blk_cell HT.out.kx 0
            have qx1 : w16.cell? ⟨bx, 1, none⟩ = some (.int .i64 x.f1) := blk_cell HT.out.kx 1
            have qx2 : w16.cell? ⟨bx, 2, none⟩ = some (.int .i64 x.f2) := blk_cell HT.out.kx 2
            have qx3 : w16.cell? ⟨bx, 3, none⟩ = some (.slice A2 x.f3.length c2) := blk_cell HT.out.kx 3
            have qy0 : w16.cell? ⟨by_, 0, none⟩ = some (.int .i64 y.f0) := blk_cell HT.out.ky 0
            have qy1 : w16.cell? ⟨by_, 1, none⟩ = some (.int .i64 y.f1) := blk_cell HT.out.ky 1
            have qy2 : w16.cell? ⟨by_, 2, none⟩ = some (.int .i64 y.f2) := blk_cell HT.out.ky 2
            have qy3 : w16.cell? ⟨by_, 3, none⟩ = some (.slice A3 y.f3.length c3) := blk_cell HT.out.ky 3
            have qz0 : w16.cell? ⟨bz, 0, none⟩ = some (.int .i64 z.f0) := blk_cell HT.out.kz 0
            have qz1 : w16.cell? ⟨bz, 1, none⟩ = some (.int .i64 z.f1) := blk_cell HT.out.kz 1
            have qz2 : w16.cell? ⟨bz, 2, none⟩ = some (.int .i64 z.f2) := blk_cell HT.out.kz 2
            have qz3 : w16.cell? ⟨bz, 3, none⟩ = some (.slice A4 z.f3.length c4) := blk_cell HT.out.kz 3
            go_wp2
            clear qx0 qx1 qx2 qx3 qy0 qy1 qy2 qy3 qz0 qz1 qz2 qz3
            go_meet
            case rel => exact ⟨rfl, HT⟩
      case rest =>
        obtain ⟨rfl, HT⟩ := hcut
        go_wp2_with ((with_reducible refine gate_dst (N := 72) rfl ?_); refine Aside0.out (p := _) ?_)
        refine Aside0.mk ?_
        have HF := Aside0.mk (And.intro (Kd.C_F k25_heap HT.out.ra) (Kd.C_F k25_heap HT.out.rb))
        refine Kd.N_lit k25 (w0 := wc) wc.heap.size 25 (by rfl) (N' := 72) rfl (xs := ([] : List S25)) (inner := []) (ok := fun _ => True) (okp := fun _ => True) ?hr ?hp (fun _ hk => hk) trivial (Below.refl _ _) (Nat.le_refl _) (by simp) ?_
        case hr => first | (go_simp; done) | (go_simp; rfl)
        case hp => exact Reps.none _ _
        intro v72 w20 hn hb _ _
        have HN := Aside0.mk (And.intro hn hb)
        clear hn hb
        obtain ⟨A72, c72, rfl⟩ := Kd.N_slice HN.out.1
        go_wp2_with ((with_reducible refine gate_dst (N := 74) rfl ?_); refine Aside0.out (p := _) ?_)
        refine Aside0.mk ?_
        at_builtin
        refine Kd.N_append_rows k25 (w0 := wc) wc.heap.size rfl (.tmp 72) (.tmp 73) 22 25 (.agg #[(.int .i64 0), (.int .i64 0), (.int .i64 0), (.slice none 0 0)]) 48 rfl Try.underlying22 info25 rfl (by decide) (by omega) _ _ la A0 la.length c0 (fun _ => True) (fun k => k < wc.heap.size) rfl rfl HN.out.1 (Kd.F_below HF.out.1 HN.out.2) (fun k hk => ⟨trivial, fun e => by have := Kd.N_base HN.out.1 _ e.symm; omega⟩) (fun _ _ => trivial) HN.out.2 HN.out.2.size (by have := HS.out.1; simp; omega) ?_
        intro v74 w21 hn hb _ _
        rw [List.nil_append] at hn
        have HN2 := Aside0.mk (And.intro hn hb)
        clear hn hb HN
        obtain ⟨A74, c74, rfl⟩ := Kd.N_slice HN2.out.1
        go_wp2_with ((with_reducible refine gate_dst (N := 76) rfl ?_); refine Aside0.out (p := _) ?_)
        refine Aside0.mk ?_
        at_builtin
        refine Kd.N_append_rows k25 (w0 := wc) wc.heap.size rfl (.tmp 74) (.tmp 75) 22 25 (.agg #[(.int .i64 0), (.int .i64 0), (.int .i64 0), (.slice none 0 0)]) 48 rfl Try.underlying22 info25 rfl (by decide) (by omega) _ _ lb A1 lb.length c1 (fun _ => True) (fun k => k < wc.heap.size) rfl rfl HN2.out.1 (Kd.F_below HF.out.2 HN2.out.2) (fun k hk => ⟨trivial, fun e => by have := Kd.N_base HN2.out.1 _ e.symm; omega⟩) (fun _ _ => trivial) HN2.out.2 HN2.out.2.size (by have := HS.out; omega) ?_
        intro v76 w22 hn hb _ _
        obtain ⟨lab, hlab⟩ : ∃ lab, lab = la ++ lb := ⟨_, rfl⟩
        rw [← hlab] at hn
        have HLB := Aside0.mk hlab
        clear hlab
        have HN := Aside0.mk (And.intro hn hb)
        clear hn hb HN2 HF
        obtain ⟨A76, c76, rfl⟩ := Kd.N_slice HN.out.1
        go_wp2_with ((with_reducible refine gate_dst (N := 77) rfl ?_); refine Aside0.out (p := _) ?_)
        refine Aside0.mk ?_
        refine goesL_ (some 77) rfl rfl Try.func18 (by kernel_rfl) rfl #[.slice A76 lab.length c76] rfl (by (try simp only [List.map_toArray, List.map_cons, List.map_nil, List.append_toArray, List.cons_append, List.nil_append]); first | done | rfl) ?_
        have HX := Aside0.mk (HT.out.step HN.out.2)
        have hgab : ∀ u ∈ lab, good u := fun u hu => by
          rw [HLB.out] at hu
          rcases List.mem_append.mp hu with h | h
          · exact HG.out.1 u h
          · exact HG.out.2.1 u h
        have hlab : lab.length ≤ 80 := by rw [HLB.out, List.length_append]; have := HS.out; omega
        have HGL := Aside0.mk (And.intro hgab hlab)
        clear hgab hlab
        refine (sortC _ A76 c76 lab (Kd.N_reads' HN.out.1).2.2 (Kd.N_reads' HN.out.1).2.1 (bndB_iff.mpr ⟨by have := HGL.out.2; omega, HGL.out.1⟩)).mono ?_
        rintro e w23 ⟨A11, c11, rfl, hd, hr, hb⟩
        refine ⟨_, rfl, ?_⟩
        have HV := Aside0.mk (And.intro hd (And.intro hr (HX.out.step hb)))
        clear hd hr hb HX HN HT
        go_wp2_with ((with_reducible refine gate_dst (N := 79) rfl ?_); refine Aside0.out (p := _) ?_)
        refine Aside0.mk ?_
        refine goesL_ (some 79) rfl rfl Try.func18 (by kernel_rfl) rfl #[.slice A0 la.length c0] rfl (by (try simp only [List.map_toArray, List.map_cons, List.map_nil, List.append_toArray, List.cons_append, List.nil_append]); first | done | rfl) ?_
        refine (sortC _ A0 c0 la HV.out.2.2.ra HL.out.1 (bndB_iff.mpr ⟨by have := HS.out.1; omega, HG.out.1⟩)).mono ?_
        rintro e w24 ⟨A12, c12, rfl, hd, hr, hb⟩
        refine ⟨_, rfl, ?_⟩
        obtain ⟨HV1, HV2, HV3⟩ := HV.out
        have HV0 := Aside0.mk HV1
        have HV := Aside0.mk (And.intro HV1 (And.intro (Kd.C_below HV2 hb) (And.intro (HV3.step hb) (And.intro hd hr))))
        clear hd hr hb HV1 HV2 HV3
        generalize hq : Hp.srt ltL lab = all at HV HV0 ⊢
        go_wp2_with ((with_reducible refine gate_dst (N := 13) rfl ?_); refine Aside0.out (p := _) ?_)
        go_wp2
        go_loopg [12, 13] lb.length (fun kq v12 v13 w' => ∃ (l : List S25) (i : Nat) (A : Option Addr) (c : Nat), v12 = .slice A l.length c ∧ v13 = .int .i64 i ∧ Aside0 (kq + i = lb.length ∧ l = Hp.srt ltL (la ++ lb.take i) ∧ l.length ≤ c ∧ Kd.C k25 w' A l.length l ∧ Kd.C k25 w' A11 all.length all ∧ At1 w w' A0 A1 A2 A3 A4 c2 c3 c4 la lb x y z bx by_ bz))
        case atStart => exact ⟨_, 0, _, _, rfl, rfl, ⟨by omega, by rw [List.take_zero, List.append_nil], HV.out.2.2.2.1, HV.out.2.2.2.2, HV.out.2.1, HV.out.2.2.1⟩⟩
        case round =>
          clear HV
          obtain ⟨l, i, A, c, rfl, rfl, HR⟩ := hrel
          obtain ⟨h1, h2, h3, h4, h5, h6⟩ := HR.out
          by_cases hlt : i < lb.length
          · have hli : l.length = la.length + i := by rw [h2, (Hp.srt_perm _).length_eq, List.length_append, List.length_take]; omega
            have hgl : ∀ u ∈ l, good u := fun u hu => by
              rw [h2] at hu
              rcases List.mem_append.mp ((Hp.srt_perm _).mem_iff.mp hu) with h | h
              · exact HG.out.1 u h
              · exact HG.out.2.1 u (List.mem_of_mem_take h)
            have HI := Aside0.mk (And.intro hli (And.intro hgl hlt))
            cases gk with
            | zero => exact absurd h1 (by omega)
            | succ k1 =>
            have b1 : decide ((i : Int) < (lb.length : Int)) = true := decide_eq_true (by omega)
            have b2 : decide (i < lb.length) = true := decide_eq_true hlt
            obtain ⟨ad, A9, c9, e, hx0, hx1, hx2, hx3, hl3, hi3⟩ := at_T25 (h6.rb) (i : Int) (by omega) (by omega)
            simp only [Int.toNat_natCast] at hx0 hx1 hx2 hx3
            subst e
            have hxe : rd_T25 lb (i : Int) = lb.getD i z25 := by unfold rd_T25; rw [Int.toNat_natCast]
            rw [hxe] at hx0 hx1 hx2 hx3 hl3 hi3
            obtain ⟨u, hu⟩ : ∃ u, u = lb.getD i z25 := ⟨_, rfl⟩
            rw [← hu] at hx0 hx1 hx2 hx3 hl3 hi3
            have HU := Aside0.mk hu
            have HU3 := Aside0.mk (And.intro hl3 hi3)
            clear hl3 hi3 hu hxe
            clear hli hgl h1 h2 h3 h4 h5 h6
            go_wp2_with ((with_reducible refine gate_dst (N := 91) rfl ?_); refine Aside0.out (p := _) ?_)
            refine Aside0.mk ?_
            refine goesL_ (some 91) rfl rfl Try.func19 (by kernel_rfl) rfl #[.slice A l.length c, .agg #[.int .i64 u.f0, .int .i64 u.f1, .int .i64 u.f2, .slice A9 u.f3.length c9]] rfl (by (try simp only [List.map_toArray, List.map_cons, List.map_nil, List.append_toArray, List.cons_append, List.nil_append]); first | done | rfl) ?_
            clear hx0 hx1 hx2 hx3 b1 b2
            have hbn : bndB (u :: l) = true := bndB_iff.mpr ⟨by rw [List.length_cons, HI.out.1]; have := HS.out; have := HI.out.2.2; omega, fun v hv => by
              rcases List.mem_cons.mp hv with h | h
              · rw [h, HU.out, Hp.getD_lt _ _ _ HI.out.2.2]; exact HG.out.2.1 _ (List.getElem_mem _)
              · exact HI.out.2.1 v h⟩
            refine (putC _ A c l u A9 c9 HR.out.2.2.2.1 HR.out.2.2.1 HU3.out.2 HU3.out.1 hbn).mono ?_
            rintro e w30 ⟨B, d, rfl, hd, hr, hb⟩
            refine ⟨_, rfl, ?_⟩
            have hsr : Hp.srt ltL (u :: l) = Hp.srt ltL (la ++ lb.take (i + 1)) := by
              refine srt_same (bndB_iff.mp hbn).2 ?_
              have hu1 : lb.take (i + 1) = lb.take i ++ [u] := by
                rw [List.take_succ_eq_append_getElem HI.out.2.2, HU.out, Hp.getD_lt _ _ _ HI.out.2.2]
              rw [hu1, ← List.append_assoc]
              refine (List.Perm.cons u ?_).trans (List.perm_append_singleton u _).symm
              rw [HR.out.2.1]
              exact Hp.srt_perm _
            obtain ⟨h1, h2, h3, h4, h5, h6⟩ := HR.out
            generalize Hp.srt ltL (u :: l) = l2 at hd hr hsr ⊢
            have HN := Aside0.mk (show k1 + (i + 1) = lb.length ∧ l2 = Hp.srt ltL (la ++ lb.take (i + 1)) ∧ l2.length ≤ d ∧ Kd.C k25 w30 B l2.length l2 ∧ Kd.C k25 w30 A11 all.length all ∧ At1 w w30 A0 (some ad) A2 A3 A4 c2 c3 c4 la lb x y z bx by_ bz from ⟨by omega, hsr, hd, hr, Kd.C_below h5 hb, h6.step hb⟩)
            have HJ := Aside0.mk (up1 i (by have := HI.out.2.2; have := HS.out; omega))
            clear hbn hsr hd hr hb h1 h2 h3 h4 h5 h6 HR HU HU3 HI hlt
            go_wp2
            go_roundg k1
            case measure => exact Nat.lt_succ_self _
            case rel => exact ⟨l2, i + 1, _, _, rfl, congrArg (Value.int .i64) HJ.out, HN⟩
          · obtain rfl : l = all := by rw [h2, List.take_of_length_le (by omega), ← HLB.out, hq]
            have b1 : decide ((i : Int) < (lb.length : Int)) = false := decide_eq_false (by omega)
            have b2 : decide (i < lb.length) = false := decide_eq_false hlt
            have hll : l.length ≤ 80 := by rw [← hq, (Hp.srt_perm _).length_eq]; exact HGL.out.2
            have hbl : bndB l = true := bndB_iff.mpr ⟨by omega, fun v hv => HGL.out.1 v (by rw [← hq] at hv; exact (Hp.srt_perm _).mem_iff.mp hv)⟩
            have hsl : Sorted l := by rw [← hq]; exact Hp.srt_sorted lt_asym lt_trans' _
            have HQ := Aside0.mk (And.intro hll (And.intro hbl hsl))
            clear hll hbl hsl h1 h2 h3 h4 h5 h6 hq hlt
            go_wp2_with ((with_reducible refine gate_dst (N := 94) rfl ?_); refine Aside0.out (p := _) ?_)
            refine Aside0.mk ?_
            refine goesL_ (some 94) rfl rfl Try.func17 (by kernel_rfl) rfl #[.slice A11 l.length c11, .slice A l.length c] rfl (by (try simp only [List.map_toArray, List.map_cons, List.map_nil, List.append_toArray, List.cons_append, List.nil_append]); first | done | rfl) ?_
            clear b1 b2
            refine (sameC _ A11 c11 A c l HR.out.2.2.2.2.1 HV0.out HR.out.2.2.2.1 HR.out.2.2.1 (by have := HQ.out.1; omega)).mono ?_
            rintro e w31 ⟨rfl, hb⟩
            refine ⟨_, rfl, ?_⟩
            have HZ := Aside0.mk (And.intro (Kd.C_below HR.out.2.2.2.2.1 hb) (HR.out.2.2.2.2.2.step hb).ba)
            clear hb HR
            go_wp2
            go_loopg [14] l.length (fun kq v14 w' => ∃ (t : List S25) (A : Option Addr) (c : Nat), v14 = .slice A t.length c ∧ Aside0 (t.length ≤ kq ∧ t.length ≤ 80 ∧ bndB t = true ∧ Sorted t ∧ t.length ≤ c ∧ Kd.C k25 w' A t.length t ∧ Below w.heap.size w w'))
            case atStart => exact ⟨_, _, _, rfl, ⟨Nat.le_refl _, HQ.out.1, HQ.out.2.1, HQ.out.2.2, HV0.out, HZ.out.1, HZ.out.2⟩⟩
            case round =>
              clear HZ HV0 HQ
              obtain ⟨t, A5, c5, rfl, HR⟩ := hrel
              have hst : Hp.srt ltL t = t := srt_id (bndB_iff.mp HR.out.2.2.1).2 HR.out.2.2.2.1
              have HST := Aside0.mk hst
              clear hst
              go_wp2_with ((with_reducible refine gate_dst (N := 99) rfl ?_); refine Aside0.out (p := _) ?_)
              refine Aside0.mk ?_
              refine goesL_ (some 99) rfl rfl Try.func14 (by kernel_rfl) rfl #[.slice A5 t.length c5] rfl (by (try simp only [List.map_toArray, List.map_cons, List.map_nil, List.append_toArray, List.cons_append, List.nil_append]); first | done | rfl) ?_
              have hcase : t = [] ∨ ∃ u r, t = u :: r := by
                cases t with
                | nil => exact .inl rfl
                | cons u r => exact .inr ⟨u, r, rfl⟩
              rcases hcase with rfl | ⟨u, r, htu⟩
              · refine (nextD _ A5 c5 [] HR.out.2.2.2.2.2.1 HR.out.2.2.2.2.1 HR.out.2.2.1 0 false (by rw [HST.out]; rfl) (by rw [HST.out]; rfl)).mono ?_
                rintro e w40 ⟨rfl, hb⟩
                refine ⟨_, rfl, ?_⟩
                have HB := Aside0.mk (HR.out.2.2.2.2.2.2.trans (hb.mono HR.out.2.2.2.2.2.2.size))
                clear hb HR HST
                go_wp2
                go_ret
                exact ⟨rfl, HB.out⟩
              · cases gk with
                | zero => exact absurd HR.out.1 (by rw [htu]; simp)
                | succ k2 =>
                have HTU := Aside0.mk htu
                refine (nextD _ A5 c5 t HR.out.2.2.2.2.2.1 HR.out.2.2.2.2.1 HR.out.2.2.1 u.f0 true (by rw [HST.out, htu]; rfl) (by rw [HST.out, htu]; rfl)).mono ?_
                clear htu
                rintro e w40 ⟨rfl, hb⟩
                refine ⟨_, rfl, ?_⟩
                have HC := Aside0.mk (And.intro (Kd.C_below HR.out.2.2.2.2.2.1 hb) (HR.out.2.2.2.2.2.2.trans (hb.mono HR.out.2.2.2.2.2.2.size)))
                clear hb
                go_wp2_with ((with_reducible refine gate_dst (N := 110) rfl ?_); refine Aside0.out (p := _) ?_)
                refine Aside0.mk ?_
                refine goesL_ (some 110) rfl rfl Try.func11 (by kernel_rfl) rfl #[.slice A5 t.length c5, .int .i64 u.f0] rfl (by (try simp only [List.map_toArray, List.map_cons, List.map_nil, List.append_toArray, List.cons_append, List.nil_append]); first | done | rfl) ?_
                refine (dueC _ A5 c5 t u.f0 HC.out.1 HR.out.2.2.2.2.1 HR.out.2.2.1).mono ?_
                rintro e w41 ⟨A6, c6, A7, c7, rfl, hd, hd', hr, hr', hb⟩
                refine ⟨_, rfl, ?_⟩
                have hsp := due_split t u.f0
                have hall : ∀ v ∈ dueD t u.f0, v.f0 = u.f0 := fun v hv => by
                  unfold dueD at hv
                  rw [HST.out] at hv
                  have hv1 := of_decide_eq_true (List.mem_filter.mp hv).2
                  have hv2 := (List.mem_filter.mp hv).1
                  have hso := HR.out.2.2.2.1
                  rw [HTU.out] at hv2 hso
                  rcases List.mem_cons.mp hv2 with h | h
                  · rw [h]
                  · have := at_le ((List.pairwise_cons.mp hso).1 v h)
                    omega
                have hpos : 0 < (dueD t u.f0).length := by
                  refine List.length_pos_of_mem (a := u) ?_
                  unfold dueD
                  rw [HST.out, HTU.out]
                  exact List.mem_filter.mpr ⟨List.mem_cons_self, decide_eq_true (Int.le_refl _)⟩
                have hsub : ∀ v ∈ dueR t u.f0, v ∈ t := fun v hv => by
                  unfold dueR at hv
                  rw [HST.out] at hv
                  exact (List.mem_filter.mp hv).1
                have hsR : Sorted (dueR t u.f0) := by
                  unfold dueR
                  rw [HST.out]
                  exact HR.out.2.2.2.1.sublist List.filter_sublist
                have hbR : bndB (dueR t u.f0) = true := bndB_sub HR.out.2.2.1 (by omega) hsub
                generalize dueD t u.f0 = D at hd hr hsp hall hpos ⊢
                generalize dueR t u.f0 = R at hd' hr' hsp hsR hbR ⊢
                have HD := Aside0.mk (And.intro hr (And.intro hr' (And.intro hall (And.intro hsR (And.intro hbR (And.intro hd' (And.intro hsp hpos)))))))
                have HE := Aside0.mk (HC.out.2.trans (hb.mono HC.out.2.size))
                have b0 : decide (D.length = 0) = false := decide_eq_false (by omega)
                have b1 : ((D.length : Int) == 0) = false := beq_eq_false_iff_ne.mpr (by omega)
                have b2 : (D.length == 0) = false := beq_eq_false_iff_ne.mpr (by omega)
                have b3 : wrap64 ((D.length : Int) + (R.length : Int)) = (t.length : Int) := by have := HR.out.2.1; rw [w64_in (by omega) (by omega)]; omega
                clear hd hr hd' hr' hb hall hsR hbR hsub hpos
                have HSP := Aside0.mk hsp
                clear hsp
                go_wp2
                clear b0 b1 b2 b3
                go_loopg [19] D.length (fun kq v19 w' => ∃ i : Nat, v19 = .int .i64 i ∧ Aside0 (kq + i = D.length ∧ Kd.C k25 w' A6 D.length D ∧ Kd.C k25 w' A7 R.length R ∧ Below w.heap.size w w'))
                case atStart => exact ⟨0, rfl, ⟨by omega, HD.out.1, HD.out.2.1, HE.out⟩⟩
                case round =>
                  clear HE
                  obtain ⟨i, rfl, HI⟩ := hrel
                  obtain ⟨h1, h2, h3, h4⟩ := HI.out
                  by_cases hlt : i < D.length
                  · cases gk with
                    | zero => exact absurd h1 (by omega)
                    | succ k3 =>
                    have b1 : decide ((i : Int) < (D.length : Int)) = true := decide_eq_true (by omega)
                    have b2 : decide (i < D.length) = true := decide_eq_true hlt
                    have hl80 : i < 1099511627776 := by have := HSP.out; have := HR.out.2.1; omega
                    obtain ⟨ad, A9, c9, e, hx0, hx1, hx2, hx3, hl3, hi3⟩ := at_T25 (h2) (i : Int) (by omega) (by omega)
                    simp only [Int.toNat_natCast] at hx0 hx1 hx2 hx3
                    subst e
                    have hxe : rd_T25 D (i : Int) = D.getD i z25 := by unfold rd_T25; rw [Int.toNat_natCast]
                    rw [hxe] at hx0 hx1 hx2 hx3 hl3 hi3
                    obtain ⟨v, hu⟩ : ∃ u, u = D.getD i z25 := ⟨_, rfl⟩
                    rw [← hu] at hx0 hx1 hx2 hx3 hl3 hi3
                    have HU := Aside0.mk hu
                    have HU3 := Aside0.mk (And.intro hl3 hi3)
                    clear hl3 hi3 hu hxe
                    have hvf : v.f0 = u.f0 := HD.out.2.2.1 v (by rw [HU.out, Hp.getD_lt _ _ _ hlt]; exact List.getElem_mem _)
                    rw [hvf] at hx0
                    have HJ := Aside0.mk (And.intro (up1 i hl80) (And.intro (show k3 + (i + 1) = D.length by omega) (And.intro h2 (And.intro h3 h4))))
                    clear hvf HU HU3 HI h1 h2 h3 h4 hl80
                    go_wp2
                    clear hx0 hx1 hx2 hx3 hlt b1 b2
                    go_roundg k3
                    case measure => exact Nat.lt_succ_self _
                    case rel => exact ⟨i + 1, congrArg (Value.int .i64) HJ.out.1, ⟨HJ.out.2.1, HJ.out.2.2.1, HJ.out.2.2.2.1, HJ.out.2.2.2.2⟩⟩
                  · have b1 : decide ((i : Int) < (D.length : Int)) = false := decide_eq_false (by omega)
                    have b2 : decide (i < D.length) = false := decide_eq_false hlt
                    have HJ := Aside0.mk (show R.length ≤ k2 ∧ R.length ≤ 80 ∧ bndB R = true ∧ Sorted R ∧ R.length ≤ c7 ∧ Kd.C k25 wr A7 R.length R ∧ Below w.heap.size w wr from ⟨by have := HSP.out; have := HR.out.1; have := HD.out.2.2.2.2.2.2.2; omega, by have := HSP.out; have := HR.out.2.1; omega, HD.out.2.2.2.2.1, HD.out.2.2.2.1, HD.out.2.2.2.2.2.1, h3, h4⟩)
                    clear HI h1 h2 h3 h4 HR HD HSP hlt
                    go_wp2
                    go_roundg k2
                    case measure => exact Nat.lt_succ_self _
                    case rel => exact ⟨R, _, _, rfl, HJ⟩
def wf25 (x : S25) : Prop := ((Lit.int .i64 x.f0).wf = true) ∧ (((Lit.int .i64 x.f1).wf = true) ∧ (((Lit.int .i64 x.f2).wf = true) ∧ ((x.f3.length ≤ maxLen ∧ x.f3.length * 1 ≤ 140737488351232 ∧ ∀ y_ ∈ x.f3, (Lit.int .u8 y_).wf = true))))
theorem wf25.good {x : S25} (h : wf25 x) : good x := good_of h.2.2.2
theorem wfL.good {l : List S25} (h : l.length ≤ maxLen ∧ l.length * 48 ≤ 140737488351232 ∧ ∀ y_ ∈ l, wf25 y_) : ∀ y ∈ l, Qp.good y := fun y hy => (h.2.2 y hy).good
theorem queueParts.walk (w : World) (A0 A1 A2 A3 A4 : Option Addr) (c0 c1 c2 c3 c4 : Nat) (x0 x1 : List S25) (x2 x3 x4 : S25)
    (hr0 : Kd.C k25 w A0 x0.length x0) (hc0 : x0.length ≤ c0) (w0 : x0.length ≤ maxLen ∧ x0.length * 48 ≤ 140737488351232 ∧ ∀ y_ ∈ x0, wf25 y_) (hr1 : Kd.C k25 w A1 x1.length x1) (hc1 : x1.length ≤ c1) (w1 : x1.length ≤ maxLen ∧ x1.length * 48 ≤ 140737488351232 ∧ ∀ y_ ∈ x1, wf25 y_)
    (hr2 : Kd.C (Kd.int .u8) w A2 x2.f3.length x2.f3) (hc2 : x2.f3.length ≤ c2) (w2 : wf25 x2) (hr3 : Kd.C (Kd.int .u8) w A3 x3.f3.length x3.f3) (hc3 : x3.f3.length ≤ c3) (w3 : wf25 x3) (hr4 : Kd.C (Kd.int .u8) w A4 x4.f3.length x4.f3) (hc4 : x4.f3.length ≤ c4) (w4 : wf25 x4) :
    Calls Try.prog 5 #[.slice A0 x0.length c0, .slice A1 x1.length c1, .agg #[.int .i64 x2.f0, .int .i64 x2.f1, .int .i64 x2.f2, .slice A2 x2.f3.length c2], .agg #[.int .i64 x3.f0, .int .i64 x3.f1, .int .i64 x3.f2, .slice A3 x3.f3.length c3], .agg #[.int .i64 x4.f0, .int .i64 x4.f1, .int .i64 x4.f2, .slice A4 x4.f3.length c4]] w fun e w' => e = .returned (.bool true) ∧ Below w.heap.size w w' :=
  parts.calls w A0 A1 A2 A3 A4 c0 c1 c2 c3 c4 x0 x1 x2 x3 x4 hr0 hc0 hr1 hc1 hr2 hc2 hr3 hc3 hr4 hc4 (wfL.good w0) (wfL.good w1) w2.good w3.good
end Go.Proofs.Ytghkngdcmlhmeaa.Qw

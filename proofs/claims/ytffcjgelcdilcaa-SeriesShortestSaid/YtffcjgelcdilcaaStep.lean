/- (*series.massey).step: the region that makes the next rule. -/
import Derived.Test.YtffcjgelcdilcaaBack
import Derived.Test.YtffcjgelcdilcaaPSerx5
import Derived.Test.YtffcjgelcdilcaaPSerx3
set_option linter.unusedVariables false
set_option linter.unusedSimpArgs false
set_option linter.unusedSectionVars false
namespace Go.Proofs.Ytffcjgelcdilcaa.Sr
open Go.RowKit Go.Shelf Go.Proofs Go.Proofs.Ytffcjgelcdilcaa.PSer Go.Proofs.YtffcjgelcdilcaaW.PrintWords Go.Proofs.YtffcjgelcdilcaaW.PrintLast Go.Proofs.YtffcjgelcdilcaaW.PrintMore Go.Proofs.Ytffcjgelcdilcaa.Rd

def st_T9 : Bool × List (List Nat × List Nat) := (true, [([], []), ([], []), ([], []), ([2], [2]), ([3], [3]), ([4], [4]), ([], []), ([6], [6]), ([7], [7]), ([8], [8]), ([], []), ([], []), ([11], [11]), ([12], [12]), ([13], [13]), ([1, 5, 9, 10, 14], [1, 5, 9, 10, 14]), ([0, 0, 1, 2, 3, 4, 5, 6, 7, 8, 9, 10, 11, 12, 13, 14, 15], [0]), ([16, 0, 1, 2, 3, 4, 5, 6, 7, 8, 9, 10, 11, 12, 13, 14, 15], [16]), ([17, 15, 15, 0, 1, 2, 3, 4, 5, 6, 7, 8, 9, 10, 11, 12, 13, 14, 15], [15, 17])])
def st_B9 : List Nat := [0, 0, 0, 4, 12, 28, 0, 64, 192, 448, 0, 0, 2048, 6144, 14336, 32766, 65535, 131071, 262143]
theorem st_tab9 : rtab .any (opsOf Try.f51 9) = st_T9 := by kernel_rfl
theorem st_bits9 : waitsOk st_T9.2 st_B9 = true := by kernel_rfl
set_option maxHeartbeats 8000000 in
set_option maxRecDepth 100000 in
theorem st_less (k : Nat) (p x ago : Int) (Q : Exit → Act → World → Prop) (W : World) (Mb : Nat) (c b g : List Int) (Ac Ab : Option Addr) (cc cb : Nat) {u2 u3 u4 u5 u6 u7 u8 u9 u11 u12 u13 u14 u15 u16 u17 u18 u19 u20 u21 u22 u23 u24 u25 u26 u27 u28 u29 u30 u31 u32 u33 u34 u35 u36 u37 u38 u39 u40 u41 u42 u43 u44 u45 u46 u47 u48 u49 u50 u51 u52 u53 u54 u55 u56 u57 u58 u59 u60 u61 u62 u63 u64 u65 u66 u67 u68 u69 u70 u71 u72 u73 u74 u75 u76 u77 u78 u79 u80 u81 u82 u83 u84 u85 u86 u87 u88 u89 u90 u91 : Value}
    (h0 : W.cell? ⟨Mb, 0, none⟩ = some (.slice Ac c.length cc)) (h1 : W.cell? ⟨Mb, 1, none⟩ = some (.slice Ab b.length cb)) (h4 : W.cell? ⟨Mb, 4, none⟩ = some (.int .i64 ago)) (hf : W.frozen? ⟨Mb, 0, none⟩ = false)
    (hc : Kd.C (Kd.int .u64) W Ac c.length c) (hcc : c.length ≤ cc) (hb : Kd.C (Kd.int .u64) W Ab b.length b) (hbc : b.length ≤ cb) (hl : series_less.f k p c b x ago = some g)
    (hQ : ∀ w2 gv, Below W.heap.size W w2 → Kd.R (Kd.int .u64) 22 w2 W.heap.size (fun _ => True) gv g → Q .normal { tmps := #[.pointer (some ⟨Mb, 0, none⟩), .int .u64 p, u2, u3, u4, u5, u6, u7, u8, u9, .int .u64 x, u11, u12, u13, u14, u15, u16, u17, u18, u19, u20, u21, u22, u23, u24, u25, u26, u27, u28, u29, u30, u31, u32, u33, u34, u35, u36, u37, u38, u39, u40, u41, u42, u43, u44, u45, .pointer (some ⟨Mb, 0, none⟩), .int .u64 p, .pointer (some ⟨Mb, 0, none⟩), .pointer (some ⟨Mb, 0, none⟩), .pointer (some ⟨Mb, 0, none⟩), .slice Ac c.length cc, .pointer (some ⟨Mb, 0, none⟩), .pointer (some ⟨Mb, 0, none⟩), .pointer (some ⟨Mb, 1, none⟩), .slice Ab b.length cb, .int .u64 x, .pointer (some ⟨Mb, 0, none⟩), .pointer (some ⟨Mb, 0, none⟩), .pointer (some ⟨Mb, 4, none⟩), .int .i64 ago, gv, .pointer (some ⟨Mb, 0, none⟩), .pointer (some ⟨Mb, 0, none⟩), u64, u65, u66, u67, u68, u69, u70, u71, u72, u73, u74, u75, u76, u77, u78, u79, u80, u81, u82, u83, u84, u85, u86, u87, u88, u89, u90, u91], defers := [] } (w2.setCell ⟨Mb, 0, none⟩ gv)) :
    (Code.region 9 (opsOf Try.f51 9) true).wp Try.prog Q
      { tmps := #[.pointer (some ⟨Mb, 0, none⟩), .int .u64 p, u2, u3, u4, u5, u6, u7, u8, u9, .int .u64 x, u11, u12, u13, u14, u15, u16, u17, u18, u19, u20, u21, u22, u23, u24, u25, u26, u27, u28, u29, u30, u31, u32, u33, u34, u35, u36, u37, u38, u39, u40, u41, u42, u43, u44, u45, u46, u47, u48, u49, u50, u51, u52, u53, u54, u55, u56, u57, u58, u59, u60, u61, u62, u63, u64, u65, u66, u67, u68, u69, u70, u71, u72, u73, u74, u75, u76, u77, u78, u79, u80, u81, u82, u83, u84, u85, u86, u87, u88, u89, u90, u91], defers := [] } W := by
  simp only [opsOf, Try.f51, opsIn, Option.bind_some, Option.bind, Option.getD, beq_iff_eq, if_true, if_false, Nat.reduceBEq, Bool.false_eq_true, Nat.reduceEqDiff]
  refine Code.wp_mono (Q := fun e a w' => e = .normal ∧ ∃ w2 gv, a = { tmps := #[.pointer (some ⟨Mb, 0, none⟩), .int .u64 p, u2, u3, u4, u5, u6, u7, u8, u9, .int .u64 x, u11, u12, u13, u14, u15, u16, u17, u18, u19, u20, u21, u22, u23, u24, u25, u26, u27, u28, u29, u30, u31, u32, u33, u34, u35, u36, u37, u38, u39, u40, u41, u42, u43, u44, u45, .pointer (some ⟨Mb, 0, none⟩), .int .u64 p, .pointer (some ⟨Mb, 0, none⟩), .pointer (some ⟨Mb, 0, none⟩), .pointer (some ⟨Mb, 0, none⟩), .slice Ac c.length cc, .pointer (some ⟨Mb, 0, none⟩), .pointer (some ⟨Mb, 0, none⟩), .pointer (some ⟨Mb, 1, none⟩), .slice Ab b.length cb, .int .u64 x, .pointer (some ⟨Mb, 0, none⟩), .pointer (some ⟨Mb, 0, none⟩), .pointer (some ⟨Mb, 4, none⟩), .int .i64 ago, gv, .pointer (some ⟨Mb, 0, none⟩), .pointer (some ⟨Mb, 0, none⟩), u64, u65, u66, u67, u68, u69, u70, u71, u72, u73, u74, u75, u76, u77, u78, u79, u80, u81, u82, u83, u84, u85, u86, u87, u88, u89, u90, u91], defers := [] } ∧ w' = w2.setCell ⟨Mb, 0, none⟩ gv ∧ Below W.heap.size W w2 ∧ Kd.R (Kd.int .u64) 22 w2 W.heap.size (fun _ => True) gv g) ?_ ?_
  · rintro e a w' ⟨rfl, w2, gv, rfl, rfl, hb, hv⟩
    exact hQ w2 gv hb hv
  have HC := Aside0.mk (And.intro hc hb)
  clear hQ hc hb
  refine start_ (n := 19) (S := fun w' => w'.cell? ⟨Mb, 0, none⟩ = some (.slice Ac c.length cc) ∧ w'.cell? ⟨Mb, 1, none⟩ = some (.slice Ab b.length cb) ∧ w'.cell? ⟨Mb, 4, none⟩ = some (.int .i64 ago)) (ds := [18]) #[false, false, false, false, false, false, false, false, false, false, false, false, false, false, false, false, false, false, false] (by kernel_rfl) rfl rfl ⟨h0, h1, h4⟩ (fun hHeld => ?_)
  refine with_tabW st_tab9 st_bits9 (fun HT_ HW_ => ?_)
  refine pure_ (i := 0) (N := some 46) (v := .pointer (some ⟨Mb, 0, none⟩)) (a' := ?_) #[true, false, false, false, false, false, false, false, false, false, false, false, false, false, false, false, false, false, false] rfl rfl (any_of HT_.out (by kernel_rfl)) (fun _ _ _ h => by cases h.1) (Or.inl ⟨by rfl, ?_⟩) ?_ ?_
  · intro w'
    go_simp
    try with_reducible rfl
  rotate_left
  · simp only [Act.put, List.setIfInBounds_toArray, List.set_cons_zero, List.set_cons_succ]
    rfl
  refine pure_ (i := 1) (N := some 47) (v := .int .u64 p) (a' := ?_) #[true, true, false, false, false, false, false, false, false, false, false, false, false, false, false, false, false, false, false] rfl rfl (any_of HT_.out (by kernel_rfl)) (fun _ _ _ h => by cases h.1) (Or.inl ⟨by rfl, ?_⟩) ?_ ?_
  · intro w'
    go_simp
    try with_reducible rfl
  rotate_left
  · simp only [Act.put, List.setIfInBounds_toArray, List.set_cons_zero, List.set_cons_succ]
    rfl
  refine pure_ (i := 2) (N := some 48) (v := .pointer (some ⟨Mb, 0, none⟩)) (a' := ?_) #[true, true, true, false, false, false, false, false, false, false, false, false, false, false, false, false, false, false, false] rfl rfl (any_of HT_.out (by kernel_rfl)) (fun _ _ _ h => by cases h.1) (Or.inl ⟨by rfl, ?_⟩) ?_ ?_
  · intro w'
    go_simp
    try with_reducible rfl
  rotate_left
  · simp only [Act.put, List.setIfInBounds_toArray, List.set_cons_zero, List.set_cons_succ]
    rfl
  refine pure_ (i := 3) (N := some 49) (v := .pointer (some ⟨Mb, 0, none⟩)) (a' := ?_) #[true, true, true, true, false, false, false, false, false, false, false, false, false, false, false, false, false, false, false] rfl rfl (any_of HT_.out (by kernel_rfl)) (fun _ _ _ h => by cases h.1) (Or.inl ⟨by rfl, ?_⟩) ?_ ?_
  · intro w'
    go_simp
    try with_reducible rfl
  rotate_left
  · simp only [Act.put, List.setIfInBounds_toArray, List.set_cons_zero, List.set_cons_succ]
    rfl
  refine pure_ (i := 4) (N := some 50) (v := .pointer (some ⟨Mb, 0, none⟩)) (a' := ?_) #[true, true, true, true, true, false, false, false, false, false, false, false, false, false, false, false, false, false, false] rfl rfl (any_of HT_.out (by kernel_rfl)) (fun _ _ _ h => by cases h.1) (Or.inl ⟨by rfl, ?_⟩) ?_ ?_
  · intro w'
    go_simp
    try with_reducible rfl
  rotate_left
  · simp only [Act.put, List.setIfInBounds_toArray, List.set_cons_zero, List.set_cons_succ]
    rfl
  refine take_ (i := 5) (N := some 51) (v := .slice Ac c.length cc) (a' := ?_) #[true, true, true, true, true, true, false, false, false, false, false, false, false, false, false, false, false, false, false] rfl rfl (take_ofW HT_.out HW_.out (by kernel_rfl)) (fun _ _ _ h => by cases h.1) (Or.inl ⟨by rfl, ?_⟩) hHeld ?_ ?_
  · intro w' s0
    obtain ⟨s1, s2, s3⟩ := s0
    go_simp
    try with_reducible rfl
  rotate_left
  · simp only [Act.put, List.setIfInBounds_toArray, List.set_cons_zero, List.set_cons_succ]
    rfl
  refine pure_ (i := 6) (N := some 52) (v := .pointer (some ⟨Mb, 0, none⟩)) (a' := ?_) #[true, true, true, true, true, true, true, false, false, false, false, false, false, false, false, false, false, false, false] rfl rfl (any_of HT_.out (by kernel_rfl)) (fun _ _ _ h => by cases h.1) (Or.inl ⟨by rfl, ?_⟩) ?_ ?_
  · intro w'
    go_simp
    try with_reducible rfl
  rotate_left
  · simp only [Act.put, List.setIfInBounds_toArray, List.set_cons_zero, List.set_cons_succ]
    rfl
  refine pure_ (i := 7) (N := some 53) (v := .pointer (some ⟨Mb, 0, none⟩)) (a' := ?_) #[true, true, true, true, true, true, true, true, false, false, false, false, false, false, false, false, false, false, false] rfl rfl (any_of HT_.out (by kernel_rfl)) (fun _ _ _ h => by cases h.1) (Or.inl ⟨by rfl, ?_⟩) ?_ ?_
  · intro w'
    go_simp
    try with_reducible rfl
  rotate_left
  · simp only [Act.put, List.setIfInBounds_toArray, List.set_cons_zero, List.set_cons_succ]
    rfl
  refine pure_ (i := 8) (N := some 54) (v := .pointer (some ⟨Mb, 1, none⟩)) (a' := ?_) #[true, true, true, true, true, true, true, true, true, false, false, false, false, false, false, false, false, false, false] rfl rfl (any_of HT_.out (by kernel_rfl)) (fun _ _ _ h => by cases h.1) (Or.inl ⟨by rfl, ?_⟩) ?_ ?_
  · intro w'
    go_simp
    try with_reducible rfl
  rotate_left
  · simp only [Act.put, List.setIfInBounds_toArray, List.set_cons_zero, List.set_cons_succ]
    rfl
  refine take_ (i := 9) (N := some 55) (v := .slice Ab b.length cb) (a' := ?_) #[true, true, true, true, true, true, true, true, true, true, false, false, false, false, false, false, false, false, false] rfl rfl (take_ofW HT_.out HW_.out (by kernel_rfl)) (fun _ _ _ h => by cases h.1) (Or.inl ⟨by rfl, ?_⟩) hHeld ?_ ?_
  · intro w' s0
    obtain ⟨s1, s2, s3⟩ := s0
    go_simp
    try with_reducible rfl
  rotate_left
  · simp only [Act.put, List.setIfInBounds_toArray, List.set_cons_zero, List.set_cons_succ]
    rfl
  refine pure_ (i := 10) (N := some 56) (v := .int .u64 x) (a' := ?_) #[true, true, true, true, true, true, true, true, true, true, true, false, false, false, false, false, false, false, false] rfl rfl (any_of HT_.out (by kernel_rfl)) (fun _ _ _ h => by cases h.1) (Or.inl ⟨by rfl, ?_⟩) ?_ ?_
  · intro w'
    go_simp
    try with_reducible rfl
  rotate_left
  · simp only [Act.put, List.setIfInBounds_toArray, List.set_cons_zero, List.set_cons_succ]
    rfl
  refine pure_ (i := 11) (N := some 57) (v := .pointer (some ⟨Mb, 0, none⟩)) (a' := ?_) #[true, true, true, true, true, true, true, true, true, true, true, true, false, false, false, false, false, false, false] rfl rfl (any_of HT_.out (by kernel_rfl)) (fun _ _ _ h => by cases h.1) (Or.inl ⟨by rfl, ?_⟩) ?_ ?_
  · intro w'
    go_simp
    try with_reducible rfl
  rotate_left
  · simp only [Act.put, List.setIfInBounds_toArray, List.set_cons_zero, List.set_cons_succ]
    rfl
  refine pure_ (i := 12) (N := some 58) (v := .pointer (some ⟨Mb, 0, none⟩)) (a' := ?_) #[true, true, true, true, true, true, true, true, true, true, true, true, true, false, false, false, false, false, false] rfl rfl (any_of HT_.out (by kernel_rfl)) (fun _ _ _ h => by cases h.1) (Or.inl ⟨by rfl, ?_⟩) ?_ ?_
  · intro w'
    go_simp
    try with_reducible rfl
  rotate_left
  · simp only [Act.put, List.setIfInBounds_toArray, List.set_cons_zero, List.set_cons_succ]
    rfl
  refine pure_ (i := 13) (N := some 59) (v := .pointer (some ⟨Mb, 4, none⟩)) (a' := ?_) #[true, true, true, true, true, true, true, true, true, true, true, true, true, true, false, false, false, false, false] rfl rfl (any_of HT_.out (by kernel_rfl)) (fun _ _ _ h => by cases h.1) (Or.inl ⟨by rfl, ?_⟩) ?_ ?_
  · intro w'
    go_simp
    try with_reducible rfl
  rotate_left
  · simp only [Act.put, List.setIfInBounds_toArray, List.set_cons_zero, List.set_cons_succ]
    rfl
  refine take_ (i := 14) (N := some 60) (v := .int .i64 ago) (a' := ?_) #[true, true, true, true, true, true, true, true, true, true, true, true, true, true, true, false, false, false, false] rfl rfl (take_ofW HT_.out HW_.out (by kernel_rfl)) (fun _ _ _ h => by cases h.1) (Or.inl ⟨by rfl, ?_⟩) hHeld ?_ ?_
  · intro w' s0
    obtain ⟨s1, s2, s3⟩ := s0
    go_simp
    try with_reducible rfl
  rotate_left
  · simp only [Act.put, List.setIfInBounds_toArray, List.set_cons_zero, List.set_cons_succ]
    rfl
  refine one_ (i := 15) (N := some 61) #[true, true, true, true, true, true, true, true, true, true, true, true, true, true, true, true, false, false, false] rfl rfl (one_of HT_.out (by kernel_rfl)) (by decide) (fun K hK => ?_)
  refine goes_ Try.func72 (by kernel_rfl) rfl #[.int .u64 p, .slice Ac c.length cc, .slice Ab b.length cb, .int .u64 x, .int .i64 ago] (by rfl) rfl rfl (by (try simp only [List.map_toArray, List.map_cons, List.map_nil]); first | done | rfl) ?_
  have hb0 : Below W.heap.size W W.drew := (Below.refl _ _).drew
  refine (series_less.calls k p _ _ c _ _ b x ago g _ (Kd.C_below HC.out.1 hb0) hcc (Kd.C_below HC.out.2 hb0) hbc hl).mono ?_
  rintro e w1 ⟨gv, rfl, hg, hb1⟩
  have hb01 : Below W.heap.size W w1 := hb0.trans hb1
  have q0 := (hb01.cell (World.block_lt_of_cell? _ _ h0)).trans h0
  have q1 := (hb01.cell (World.block_lt_of_cell? _ _ h1)).trans h1
  have q4 := (hb01.cell (World.block_lt_of_cell? _ _ h4)).trans h4
  have qf := (hb01.frozen (World.block_lt_of_cell? _ _ h0)).trans hf
  obtain ⟨Ag, cg, eg⟩ := Kd.R_slice hg
  subst eg
  refine ⟨_, rfl, hK.out _ _ ⟨q0, q1, q4⟩ (fun hHeld => ?_)⟩
  clear hK K
  refine norm_ (a' := ?_) ?_ ?_
  rotate_left
  · show Act.put _ (some 61) _ = _
    simp only [Act.put, List.setIfInBounds_toArray, List.set_cons_zero, List.set_cons_succ]
    rfl
  refine pure_ (i := 16) (N := some 62) (v := .pointer (some ⟨Mb, 0, none⟩)) (a' := ?_) #[true, true, true, true, true, true, true, true, true, true, true, true, true, true, true, true, true, false, false] rfl rfl (any_of HT_.out (by kernel_rfl)) (fun _ _ _ h => by cases h.1) (Or.inl ⟨by rfl, ?_⟩) ?_ ?_
  · intro w'
    go_simp
    try with_reducible rfl
  rotate_left
  · simp only [Act.put, List.setIfInBounds_toArray, List.set_cons_zero, List.set_cons_succ]
    rfl
  refine pure_ (i := 17) (N := some 63) (v := .pointer (some ⟨Mb, 0, none⟩)) (a' := ?_) #[true, true, true, true, true, true, true, true, true, true, true, true, true, true, true, true, true, true, false] rfl rfl (any_of HT_.out (by kernel_rfl)) (fun _ _ _ h => by cases h.1) (Or.inl ⟨by rfl, ?_⟩) ?_ ?_
  · intro w'
    go_simp
    try with_reducible rfl
  rotate_left
  · simp only [Act.put, List.setIfInBounds_toArray, List.set_cons_zero, List.set_cons_succ]
    rfl
  refine last_ (i := 18) (N := none) #[true, true, true, true, true, true, true, true, true, true, true, true, true, true, true, true, true, true, true] rfl rfl (one_of HT_.out (by kernel_rfl)) (by decide) (fun K hK => ?_)
  refine skip_ (w1 := w1.setCell ⟨Mb, 0, none⟩ (.slice Ag g.length cg)) (by rfl) rfl ?_ ?_
  · go_simp
    try rfl
  refine hK.out _ _ ?_
  clear hK K
  refine done_ (done_of HT_.out (by kernel_rfl)) ?_
  exact ⟨rfl, w1, _, rfl, rfl, hb01, hg⟩
/-! ### The state -/
/-- Massey's state at block g: the rule is its own row. -/
def Stt (H g : Nat) (W : World) (c b : List Int) (n left ago : Int) : Prop :=
  ∃ Ac cc Ab cb, W.heap[g]? = some (.cells #[.slice Ac c.length cc, .slice Ab b.length cb, .int .i64 n, .int .u64 left, .int .i64 ago] 55 (0, 0)) ∧
    Kd.R (Kd.int .u64) 22 W H (fun k => k ≠ g) (.slice Ac c.length cc) c ∧ b.length ≤ cb ∧ Kd.C (Kd.int .u64) W Ab b.length b ∧ (∀ ad, Ab = some ad → 0 < b.length → ad.block ≠ g)
/-- What a step leaves as it was: all blocks but g. -/
theorem keep_of {W W' : World} {g : Nat} (h : W.grownBy W' (some g)) : KeepBut W W' g none := ⟨h.size, fun i hi hne _ => h.block i hi (by intro e; injection e with e; exact hne e)⟩
theorem set_os (W : World) (a : Addr) (v : Value) : (W.setCell a v).os = W.os := by unfold World.setCell; repeat' split <;> rfl
theorem set_tape (W : World) (a : Addr) (v : Value) : (W.setCell a v).tape = W.tape := by unfold World.setCell; repeat' split <;> rfl
theorem set_output (W : World) (a : Addr) (v : Value) : (W.setCell a v).output = W.output := by unfold World.setCell; repeat' split <;> rfl
theorem grown_refl (W : World) (r : Option Nat) : W.grownBy W r := ⟨rfl, rfl, rfl, Nat.le_refl _, fun _ _ _ => rfl⟩
theorem grown_set {W W1 : World} {g : Nat} (h : W.grownBy W1 (some g)) (i : Nat) (v : Value) : W.grownBy (W1.setCell ⟨g, i, none⟩ v) (some g) := by
  have k := keep_of h
  have k2 := k.set_ i v
  exact ⟨(set_os W1 _ _).trans h.os, (set_tape W1 _ _).trans h.tape, (set_output W1 _ _).trans h.output, k2.1, fun j hj hne => k2.2 j hj (fun e => hne (by rw [e])) (by simp)⟩
theorem grown_below {W W1 W2 : World} {g : Nat} (h : W.grownBy W1 (some g)) (hb : Below W1.heap.size W1 W2) : W.grownBy W2 (some g) :=
  ⟨hb.os.trans h.os, hb.tape.trans h.tape, hb.output.trans h.output, Nat.le_trans h.size hb.size, fun j hj hne => (hb.block j (Nat.lt_of_lt_of_le hj h.size)).trans (h.block j hj hne)⟩
theorem blk5 {W : World} {g t : Nat} {v0 v1 v2 v3 v4 : Value} (h : W.heap[g]? = some (.cells #[v0, v1, v2, v3, v4] t (0, 0))) : W.cell? ⟨g, 0, none⟩ = some v0 ∧ W.cell? ⟨g, 1, none⟩ = some v1 ∧ W.cell? ⟨g, 2, none⟩ = some v2 ∧ W.cell? ⟨g, 3, none⟩ = some v3 ∧ W.cell? ⟨g, 4, none⟩ = some v4 ∧
    W.frozen? ⟨g, 0, none⟩ = false ∧ W.frozen? ⟨g, 1, none⟩ = false ∧ W.frozen? ⟨g, 2, none⟩ = false ∧ W.frozen? ⟨g, 3, none⟩ = false ∧ W.frozen? ⟨g, 4, none⟩ = false :=
  ⟨(blk_cell h 0).trans rfl, (blk_cell h 1).trans rfl, (blk_cell h 2).trans rfl, (blk_cell h 3).trans rfl, (blk_cell h 4).trans rfl, blk_frozen h 0, blk_frozen h 1, blk_frozen h 2, blk_frozen h 3, blk_frozen h 4⟩
def stp.f (k : Nat) (p : Int) (s : List Int) (at_ : Int) (c b : List Int) (n left ago : Int) : Option (Bool × List Int × List Int × Int × Int × Int) :=
  (series_sum.f k p s c at_).bind fun d => if d = 0 then some (true, c, b, n, left, wrap64 (ago + 1)) else
    (field_Div.f k p d left).bind fun x => if x.2 = 0 then ((series_less.f k p c b x.1 (wrap64 (ago + 1))).bind fun g =>
      if wrap64 (2 * n) ≤ at_ then some (true, g, c, wrap64 (wrap64 (at_ + 1) - n), d, 0) else some (true, g, b, n, left, wrap64 (ago + 1))) else some (false, c, b, n, left, wrap64 (ago + 1))
theorem stp.mono (p : Int) (s : List Int) (at_ : Int) (c b : List Int) (n left ago : Int) (k : Nat) : LeO (stp.f k p s at_ c b n left ago) (stp.f (k + 1) p s at_ c b n left ago) := by
  unfold stp.f
  refine LeO.bind (series_sum.mono _ _ _ _ _) fun d => LeO.ite (LeO.refl _) (LeO.bind (field_Div.mono _ _ _ _) fun x => LeO.ite (LeO.bind (series_less.mono _ _ _ _ _ _) fun g => LeO.refl _) (LeO.refl _))
set_option maxHeartbeats 8000000 in
set_option maxRecDepth 100000 in
theorem stp.way0 (k H g : Nat) (p : Int) (A1 : Option Addr) (c1 : Nat) (s : List Int) (at_ : Int) (c b : List Int) (n left ago d : Int) (W0 : World) (hH : H ≤ W0.heap.size)
    (hs : Aside0 (Kd.C (Kd.int .u64) W0 A1 s.length s)) (hc1 : s.length ≤ c1) (hA : Aside0 (∀ ad, A1 = some ad → 0 < s.length → ad.block ≠ g)) (Ac Ab : Option Addr) (cc cb : Nat)
    (blk0 : Aside0 (W0.heap[g]? = some (.cells #[.slice Ac c.length cc, .slice Ab b.length cb, .int .i64 n, .int .u64 left, .int .i64 ago] 55 (0, 0))))
    (hrc : Aside0 (Kd.R (Kd.int .u64) 22 W0 H (fun k => k ≠ g) (.slice Ac c.length cc) c)) (hbl : b.length ≤ cb) (hbc : Aside0 (Kd.C (Kd.int .u64) W0 Ab b.length b)) (hbn : Aside0 (∀ ad, Ab = some ad → 0 < b.length → ad.block ≠ g))
    (Ad : Aside0 (series_sum.f k p s c at_ = some d)) (c0 : (d == 0) = true):
    Calls Try.prog 51 #[.pointer (some ⟨g, 0, none⟩), .int .u64 p, .slice A1 s.length c1, .int .i64 at_] W0 fun e w' => e = .returned (.bool true) ∧ Stt H g w' c b n left (wrap64 (ago + 1)) ∧ W0.grownBy w' (some g) := by
  have G0 := Aside0.mk (grown_refl W0 (some g))
  obtain ⟨q0, q1, q2, q3, q4, f0, f1, f2, f3, f4⟩ := blk5 blk0.out
  go_enter Try.func51, Try.ntmps51
  go_wp2_with (first | ((with_reducible refine gate_store (t := 3) (p := 19) rfl ?_); refine store_event (t := 3) (p := 19) (v := (.tmp 17)) (w1 := (W0.setCell ⟨g, 4, none⟩ (.int .i64 (wrap64 (ago + 1))))) ?hg ?ho ?hn ?hr ?_; (case ho => rfl); (case hg => rfl); (case hn => rfl); (case hr => first | (go_simp; done) | (go_simp; rfl)); intro W1 hw; have blk1 : Aside0 (W1.heap[g]? = some (.cells #[.slice Ac c.length cc, .slice Ab b.length cb, .int .i64 n, .int .u64 left, .int .i64 (wrap64 (ago + 1))] 55 (0, 0))) := ⟨by rw [hw]; exact (blk_set blk0.out 4 _).trans rfl⟩; have G1 := Aside0.mk (grown_set G0.out 4 (.int .i64 (wrap64 (ago + 1)))); rw [← hw] at G1; clear hw; obtain ⟨q0, q1, q2, q3, q4, f0, f1, f2, f3, f4⟩ := blk5 blk1.out) | ((with_reducible refine gate_callee (f := 46) rfl ?_); refine goesL_ (some 27) rfl rfl Try.func46 (by kernel_rfl) rfl #[.int .u64 p, .slice A1 s.length c1, .slice Ac c.length cc, .int .i64 at_] rfl (by (try simp only [List.map_toArray, List.map_cons, List.map_nil]); first | done | rfl) ?_; (with_reducible refine (series_sum.calls k p A1 c1 s Ac cc c at_ d _ ?side1 hc1 ?side2 ?side3 Ad.out).mono ?_); (case side1 => exact Kd.C_keep 0 hs.out (keep_of G1.out) hA.out); (case side2 => exact (Kd.R_reads' (Kd.R_keep hrc.out (keep_of G1.out) (fun _ h => h))).2.2); (case side3 => exact (Kd.R_reads' hrc.out).2.1); rintro e W2 ⟨rfl, hb2⟩; refine ⟨_, rfl, ?_⟩; have blk2 := Aside0.mk (blk_below blk1.out hb2); have G2 := Aside0.mk (grown_below G1.out hb2); obtain ⟨q0, q1, q2, q3, q4, f0, f1, f2, f3, f4⟩ := blk5 blk2.out; clear hb2))
  go_ret
  exact ⟨rfl, ⟨Ac, cc, Ab, cb, blk2.out, Kd.R_keep hrc.out (keep_of G2.out) (fun _ h => h), hbl, Kd.C_keep 0 hbc.out (keep_of G2.out) hbn.out, hbn.out⟩, G2.out⟩
set_option maxHeartbeats 8000000 in
set_option maxRecDepth 100000 in
theorem stp.way1 (k H g : Nat) (p : Int) (A1 : Option Addr) (c1 : Nat) (s : List Int) (at_ : Int) (c b : List Int) (n left ago d : Int) (x e : Int) (W0 : World) (hH : H ≤ W0.heap.size)
    (hs : Aside0 (Kd.C (Kd.int .u64) W0 A1 s.length s)) (hc1 : s.length ≤ c1) (hA : Aside0 (∀ ad, A1 = some ad → 0 < s.length → ad.block ≠ g)) (Ac Ab : Option Addr) (cc cb : Nat)
    (blk0 : Aside0 (W0.heap[g]? = some (.cells #[.slice Ac c.length cc, .slice Ab b.length cb, .int .i64 n, .int .u64 left, .int .i64 ago] 55 (0, 0))))
    (hrc : Aside0 (Kd.R (Kd.int .u64) 22 W0 H (fun k => k ≠ g) (.slice Ac c.length cc) c)) (hbl : b.length ≤ cb) (hbc : Aside0 (Kd.C (Kd.int .u64) W0 Ab b.length b)) (hbn : Aside0 (∀ ad, Ab = some ad → 0 < b.length → ad.block ≠ g))
    (Ad : Aside0 (series_sum.f k p s c at_ = some d)) (c0 : (d == 0) = false) (Ax : Aside0 (field_Div.f k p d left = some (x, e))) (ce : (e != 0) = true) :
    Calls Try.prog 51 #[.pointer (some ⟨g, 0, none⟩), .int .u64 p, .slice A1 s.length c1, .int .i64 at_] W0 fun e w' => e = .returned (.bool false) ∧ Stt H g w' c b n left (wrap64 (ago + 1)) ∧ W0.grownBy w' (some g) := by
  have G0 := Aside0.mk (grown_refl W0 (some g))
  obtain ⟨q0, q1, q2, q3, q4, f0, f1, f2, f3, f4⟩ := blk5 blk0.out
  go_enter Try.func51, Try.ntmps51
  go_wp2_with (first | ((with_reducible refine gate_store (t := 3) (p := 19) rfl ?_); refine store_event (t := 3) (p := 19) (v := (.tmp 17)) (w1 := (W0.setCell ⟨g, 4, none⟩ (.int .i64 (wrap64 (ago + 1))))) ?hg ?ho ?hn ?hr ?_; (case ho => rfl); (case hg => rfl); (case hn => rfl); (case hr => first | (go_simp; done) | (go_simp; rfl)); intro W1 hw; have blk1 : Aside0 (W1.heap[g]? = some (.cells #[.slice Ac c.length cc, .slice Ab b.length cb, .int .i64 n, .int .u64 left, .int .i64 (wrap64 (ago + 1))] 55 (0, 0))) := ⟨by rw [hw]; exact (blk_set blk0.out 4 _).trans rfl⟩; have G1 := Aside0.mk (grown_set G0.out 4 (.int .i64 (wrap64 (ago + 1)))); rw [← hw] at G1; clear hw; obtain ⟨q0, q1, q2, q3, q4, f0, f1, f2, f3, f4⟩ := blk5 blk1.out) | ((with_reducible refine gate_callee (f := 46) rfl ?_); refine goesL_ (some 27) rfl rfl Try.func46 (by kernel_rfl) rfl #[.int .u64 p, .slice A1 s.length c1, .slice Ac c.length cc, .int .i64 at_] rfl (by (try simp only [List.map_toArray, List.map_cons, List.map_nil]); first | done | rfl) ?_; (with_reducible refine (series_sum.calls k p A1 c1 s Ac cc c at_ d _ ?side1 hc1 ?side2 ?side3 Ad.out).mono ?_); (case side1 => exact Kd.C_keep 0 hs.out (keep_of G1.out) hA.out); (case side2 => exact (Kd.R_reads' (Kd.R_keep hrc.out (keep_of G1.out) (fun _ h => h))).2.2); (case side3 => exact (Kd.R_reads' hrc.out).2.1); rintro e W2 ⟨rfl, hb2⟩; refine ⟨_, rfl, ?_⟩; have blk2 := Aside0.mk (blk_below blk1.out hb2); have G2 := Aside0.mk (grown_below G1.out hb2); obtain ⟨q0, q1, q2, q3, q4, f0, f1, f2, f3, f4⟩ := blk5 blk2.out; clear hb2) | ((with_reducible refine gate_callee (f := 71) rfl ?_); refine goesL_ (some 37) rfl rfl Try.func71 (by kernel_rfl) rfl #[.int .u64 p, .int .u64 d, .int .u64 left] rfl (by (try simp only [List.map_toArray, List.map_cons, List.map_nil]); first | done | rfl) ?_; (with_reducible refine (field_Div.calls k p d left x e _ Ax.out).mono ?_); rintro e W3 ⟨rfl, hb3⟩; refine ⟨_, rfl, ?_⟩; have blk3 := Aside0.mk (blk_below blk2.out hb3); have G3 := Aside0.mk (grown_below G2.out hb3); obtain ⟨q0, q1, q2, q3, q4, f0, f1, f2, f3, f4⟩ := blk5 blk3.out; clear hb3))
  go_ret
  exact ⟨rfl, ⟨Ac, cc, Ab, cb, blk3.out, Kd.R_keep hrc.out (keep_of G3.out) (fun _ h => h), hbl, Kd.C_keep 0 hbc.out (keep_of G3.out) hbn.out, hbn.out⟩, G3.out⟩
set_option maxHeartbeats 8000000 in
set_option maxRecDepth 100000 in
theorem stp.way2 (k H g : Nat) (p : Int) (A1 : Option Addr) (c1 : Nat) (s : List Int) (at_ : Int) (c b : List Int) (n left ago d : Int) (x : Int) (z : List Int) (W0 : World) (hH : H ≤ W0.heap.size)
    (hs : Aside0 (Kd.C (Kd.int .u64) W0 A1 s.length s)) (hc1 : s.length ≤ c1) (hA : Aside0 (∀ ad, A1 = some ad → 0 < s.length → ad.block ≠ g)) (Ac Ab : Option Addr) (cc cb : Nat)
    (blk0 : Aside0 (W0.heap[g]? = some (.cells #[.slice Ac c.length cc, .slice Ab b.length cb, .int .i64 n, .int .u64 left, .int .i64 ago] 55 (0, 0))))
    (hrc : Aside0 (Kd.R (Kd.int .u64) 22 W0 H (fun k => k ≠ g) (.slice Ac c.length cc) c)) (hbl : b.length ≤ cb) (hbc : Aside0 (Kd.C (Kd.int .u64) W0 Ab b.length b)) (hbn : Aside0 (∀ ad, Ab = some ad → 0 < b.length → ad.block ≠ g))
    (Ad : Aside0 (series_sum.f k p s c at_ = some d)) (c0 : (d == 0) = false) (Ax : Aside0 (field_Div.f k p d left = some (x, 0))) (Az : Aside0 (series_less.f k p c b x (wrap64 (ago + 1)) = some z)) (cn : decide (wrap64 (2 * n) ≤ at_) = true) :
    Calls Try.prog 51 #[.pointer (some ⟨g, 0, none⟩), .int .u64 p, .slice A1 s.length c1, .int .i64 at_] W0 fun e w' => e = .returned (.bool true) ∧ Stt H g w' z c (wrap64 (wrap64 (at_ + 1) - n)) d 0 ∧ W0.grownBy w' (some g) := by
  have G0 := Aside0.mk (grown_refl W0 (some g))
  obtain ⟨q0, q1, q2, q3, q4, f0, f1, f2, f3, f4⟩ := blk5 blk0.out
  go_enter Try.func51, Try.ntmps51
  go_wp2_with (first | ((with_reducible refine gate_store (t := 3) (p := 19) rfl ?_); refine store_event (t := 3) (p := 19) (v := (.tmp 17)) (w1 := (W0.setCell ⟨g, 4, none⟩ (.int .i64 (wrap64 (ago + 1))))) ?hg ?ho ?hn ?hr ?_; (case ho => rfl); (case hg => rfl); (case hn => rfl); (case hr => first | (go_simp; done) | (go_simp; rfl)); intro W1 hw; have blk1 : Aside0 (W1.heap[g]? = some (.cells #[.slice Ac c.length cc, .slice Ab b.length cb, .int .i64 n, .int .u64 left, .int .i64 (wrap64 (ago + 1))] 55 (0, 0))) := ⟨by rw [hw]; exact (blk_set blk0.out 4 _).trans rfl⟩; have G1 := Aside0.mk (grown_set G0.out 4 (.int .i64 (wrap64 (ago + 1)))); rw [← hw] at G1; clear hw; obtain ⟨q0, q1, q2, q3, q4, f0, f1, f2, f3, f4⟩ := blk5 blk1.out) | ((with_reducible refine gate_callee (f := 46) rfl ?_); refine goesL_ (some 27) rfl rfl Try.func46 (by kernel_rfl) rfl #[.int .u64 p, .slice A1 s.length c1, .slice Ac c.length cc, .int .i64 at_] rfl (by (try simp only [List.map_toArray, List.map_cons, List.map_nil]); first | done | rfl) ?_; (with_reducible refine (series_sum.calls k p A1 c1 s Ac cc c at_ d _ ?side1 hc1 ?side2 ?side3 Ad.out).mono ?_); (case side1 => exact Kd.C_keep 0 hs.out (keep_of G1.out) hA.out); (case side2 => exact (Kd.R_reads' (Kd.R_keep hrc.out (keep_of G1.out) (fun _ h => h))).2.2); (case side3 => exact (Kd.R_reads' hrc.out).2.1); rintro e W2 ⟨rfl, hb2⟩; refine ⟨_, rfl, ?_⟩; have blk2 := Aside0.mk (blk_below blk1.out hb2); have G2 := Aside0.mk (grown_below G1.out hb2); obtain ⟨q0, q1, q2, q3, q4, f0, f1, f2, f3, f4⟩ := blk5 blk2.out; clear hb2) | ((with_reducible refine gate_callee (f := 71) rfl ?_); refine goesL_ (some 37) rfl rfl Try.func71 (by kernel_rfl) rfl #[.int .u64 p, .int .u64 d, .int .u64 left] rfl (by (try simp only [List.map_toArray, List.map_cons, List.map_nil]); first | done | rfl) ?_; (with_reducible refine (field_Div.calls k p d left x 0 _ Ax.out).mono ?_); rintro e W3 ⟨rfl, hb3⟩; refine ⟨_, rfl, ?_⟩; have blk3 := Aside0.mk (blk_below blk2.out hb3); have G3 := Aside0.mk (grown_below G2.out hb3); obtain ⟨q0, q1, q2, q3, q4, f0, f1, f2, f3, f4⟩ := blk5 blk3.out; clear hb3))
  refine st_less k p x (wrap64 (ago + 1)) _ W3 g c b z Ac Ab cc cb q0 q1 q4 f0 (Kd.R_reads' (Kd.R_keep hrc.out (keep_of G3.out) (fun _ h => h))).2.2 (Kd.R_reads' hrc.out).2.1 (Kd.C_keep 0 hbc.out (keep_of G3.out) hbn.out) hbl Az.out ?_
  intro W4 gv hb4 hz
  obtain ⟨Az_, cz, ez⟩ := Kd.R_slice hz
  subst ez
  have blk4 := Aside0.mk (blk_below blk3.out hb4)
  have G4 := Aside0.mk (grown_below G3.out hb4)
  have hgz : g < W3.heap.size := blk_lt blk3.out
  have hz := Aside0.mk (Kd.R_mono (ok' := fun k => k ≠ g) (Kd.R_bound hz) (fun k hk => by have := hk.2.1; omega))
  obtain ⟨W5, hw⟩ : ∃ W5, W5 = W4.setCell ⟨g, 0, none⟩ (.slice Az_ z.length cz) := ⟨_, rfl⟩
  rw [← hw]
  have blk5_ : Aside0 (W5.heap[g]? = some (.cells #[.slice Az_ z.length cz, .slice Ab b.length cb, .int .i64 n, .int .u64 left, .int .i64 (wrap64 (ago + 1))] 55 (0, 0))) := ⟨by rw [hw]; exact (blk_set blk4.out 0 _).trans rfl⟩
  have G5 := Aside0.mk (grown_set G4.out 0 (.slice Az_ z.length cz))
  rw [← hw] at G5
  have hz5 : Aside0 (Kd.R (Kd.int .u64) 22 W5 H (fun k => k ≠ g) (.slice Az_ z.length cz) z) := ⟨by rw [hw]; exact Kd.R_far (Kd.R_lower hz.out (Nat.le_trans hH G3.out.size)) (fun _ h => h) _⟩
  clear hw q0 q1 q2 q3 q4 f0 f1 f2 f3 f4 hb4
  obtain ⟨q0, q1, q2, q3, q4, f0, f1, f2, f3, f4⟩ := blk5 blk5_.out
  have K5 := Aside0.mk (KeepBut.refl W5 g none)
  go_wp2_with (first | ((with_reducible refine gate_store (t := 23) (p := 85) rfl ?_); refine store_event (t := 23) (p := 85) (v := (.tmp 75)) (w1 := (W5.setCell ⟨g, 1, none⟩ (.slice Ac c.length cc))) ?hg ?ho ?hn ?hr ?_; (case ho => rfl); (case hg => rfl); (case hn => rfl); (case hr => first | (go_simp; done) | (go_simp; rfl)); intro W6 hw; have blk6 : Aside0 (W6.heap[g]? = some (.cells #[.slice Az_ z.length cz, .slice Ac c.length cc, .int .i64 n, .int .u64 left, .int .i64 (wrap64 (ago + 1))] 55 (0, 0))) := ⟨by rw [hw]; exact (blk_set blk5_.out 1 _).trans rfl⟩; have G6 := Aside0.mk (grown_set G5.out 1 (.slice Ac c.length cc)); rw [← hw] at G6; have K6 := Aside0.mk (KeepBut.set_ K5.out 1 (.slice Ac c.length cc)); rw [← hw] at K6; clear hw; obtain ⟨q0, q1, q2, q3, q4, f0, f1, f2, f3, f4⟩ := blk5 blk6.out) | ((with_reducible refine gate_store (t := 3) (p := 87) rfl ?_); refine store_event (t := 3) (p := 87) (v := (.tmp 82)) (w1 := (W6.setCell ⟨g, 2, none⟩ (.int .i64 (wrap64 (wrap64 (at_ + 1) - n))))) ?hg ?ho ?hn ?hr ?_; (case ho => rfl); (case hg => rfl); (case hn => rfl); (case hr => first | (go_simp; done) | (go_simp; rfl)); intro W7 hw; have blk7 : Aside0 (W7.heap[g]? = some (.cells #[.slice Az_ z.length cz, .slice Ac c.length cc, .int .i64 (wrap64 (wrap64 (at_ + 1) - n)), .int .u64 left, .int .i64 (wrap64 (ago + 1))] 55 (0, 0))) := ⟨by rw [hw]; exact (blk_set blk6.out 2 _).trans rfl⟩; have G7 := Aside0.mk (grown_set G6.out 2 (.int .i64 (wrap64 (wrap64 (at_ + 1) - n)))); rw [← hw] at G7; have K7 := Aside0.mk (KeepBut.set_ K6.out 2 (.int .i64 (wrap64 (wrap64 (at_ + 1) - n)))); rw [← hw] at K7; clear hw; obtain ⟨q0, q1, q2, q3, q4, f0, f1, f2, f3, f4⟩ := blk5 blk7.out) | ((with_reducible refine gate_store (t := 22) (p := 89) rfl ?_); refine store_event (t := 22) (p := 89) (v := (.tmp 83)) (w1 := (W7.setCell ⟨g, 3, none⟩ (.int .u64 d))) ?hg ?ho ?hn ?hr ?_; (case ho => rfl); (case hg => rfl); (case hn => rfl); (case hr => first | (go_simp; done) | (go_simp; rfl)); intro W8 hw; have blk8 : Aside0 (W8.heap[g]? = some (.cells #[.slice Az_ z.length cz, .slice Ac c.length cc, .int .i64 (wrap64 (wrap64 (at_ + 1) - n)), .int .u64 d, .int .i64 (wrap64 (ago + 1))] 55 (0, 0))) := ⟨by rw [hw]; exact (blk_set blk7.out 3 _).trans rfl⟩; have G8 := Aside0.mk (grown_set G7.out 3 (.int .u64 d)); rw [← hw] at G8; have K8 := Aside0.mk (KeepBut.set_ K7.out 3 (.int .u64 d)); rw [← hw] at K8; clear hw; obtain ⟨q0, q1, q2, q3, q4, f0, f1, f2, f3, f4⟩ := blk5 blk8.out) | ((with_reducible refine gate_store (t := 3) (p := 91) rfl ?_); refine store_event (t := 3) (p := 91) (v := (.const (.int .i64 0))) (w1 := (W8.setCell ⟨g, 4, none⟩ (.int .i64 0))) ?hg ?ho ?hn ?hr ?_; (case ho => rfl); (case hg => rfl); (case hn => rfl); (case hr => first | (go_simp; done) | (go_simp; rfl)); intro W9 hw; have blk9 : Aside0 (W9.heap[g]? = some (.cells #[.slice Az_ z.length cz, .slice Ac c.length cc, .int .i64 (wrap64 (wrap64 (at_ + 1) - n)), .int .u64 d, .int .i64 0] 55 (0, 0))) := ⟨by rw [hw]; exact (blk_set blk8.out 4 _).trans rfl⟩; have G9 := Aside0.mk (grown_set G8.out 4 (.int .i64 0)); rw [← hw] at G9; have K9 := Aside0.mk (KeepBut.set_ K8.out 4 (.int .i64 0)); rw [← hw] at K9; clear hw; obtain ⟨q0, q1, q2, q3, q4, f0, f1, f2, f3, f4⟩ := blk5 blk9.out))
  go_ret
  exact ⟨rfl, ⟨Az_, cz, Ac, cc, blk9.out, Kd.R_keep hz5.out K9.out (fun _ h => h), (Kd.R_reads' hrc.out).2.1, (Kd.R_reads' (Kd.R_keep hrc.out (keep_of G9.out) (fun _ h => h))).2.2, fun ad e _ => hrc.out.1 ad.block (by rw [e]; simp [Value.ownBlock])⟩, G9.out⟩
set_option maxHeartbeats 8000000 in
set_option maxRecDepth 100000 in
theorem stp.way3 (k H g : Nat) (p : Int) (A1 : Option Addr) (c1 : Nat) (s : List Int) (at_ : Int) (c b : List Int) (n left ago d : Int) (x : Int) (z : List Int) (W0 : World) (hH : H ≤ W0.heap.size)
    (hs : Aside0 (Kd.C (Kd.int .u64) W0 A1 s.length s)) (hc1 : s.length ≤ c1) (hA : Aside0 (∀ ad, A1 = some ad → 0 < s.length → ad.block ≠ g)) (Ac Ab : Option Addr) (cc cb : Nat)
    (blk0 : Aside0 (W0.heap[g]? = some (.cells #[.slice Ac c.length cc, .slice Ab b.length cb, .int .i64 n, .int .u64 left, .int .i64 ago] 55 (0, 0))))
    (hrc : Aside0 (Kd.R (Kd.int .u64) 22 W0 H (fun k => k ≠ g) (.slice Ac c.length cc) c)) (hbl : b.length ≤ cb) (hbc : Aside0 (Kd.C (Kd.int .u64) W0 Ab b.length b)) (hbn : Aside0 (∀ ad, Ab = some ad → 0 < b.length → ad.block ≠ g))
    (Ad : Aside0 (series_sum.f k p s c at_ = some d)) (c0 : (d == 0) = false) (Ax : Aside0 (field_Div.f k p d left = some (x, 0))) (Az : Aside0 (series_less.f k p c b x (wrap64 (ago + 1)) = some z)) (cn : decide (wrap64 (2 * n) ≤ at_) = false) :
    Calls Try.prog 51 #[.pointer (some ⟨g, 0, none⟩), .int .u64 p, .slice A1 s.length c1, .int .i64 at_] W0 fun e w' => e = .returned (.bool true) ∧ Stt H g w' z b n left (wrap64 (ago + 1)) ∧ W0.grownBy w' (some g) := by
  have G0 := Aside0.mk (grown_refl W0 (some g))
  obtain ⟨q0, q1, q2, q3, q4, f0, f1, f2, f3, f4⟩ := blk5 blk0.out
  go_enter Try.func51, Try.ntmps51
  go_wp2_with (first | ((with_reducible refine gate_store (t := 3) (p := 19) rfl ?_); refine store_event (t := 3) (p := 19) (v := (.tmp 17)) (w1 := (W0.setCell ⟨g, 4, none⟩ (.int .i64 (wrap64 (ago + 1))))) ?hg ?ho ?hn ?hr ?_; (case ho => rfl); (case hg => rfl); (case hn => rfl); (case hr => first | (go_simp; done) | (go_simp; rfl)); intro W1 hw; have blk1 : Aside0 (W1.heap[g]? = some (.cells #[.slice Ac c.length cc, .slice Ab b.length cb, .int .i64 n, .int .u64 left, .int .i64 (wrap64 (ago + 1))] 55 (0, 0))) := ⟨by rw [hw]; exact (blk_set blk0.out 4 _).trans rfl⟩; have G1 := Aside0.mk (grown_set G0.out 4 (.int .i64 (wrap64 (ago + 1)))); rw [← hw] at G1; clear hw; obtain ⟨q0, q1, q2, q3, q4, f0, f1, f2, f3, f4⟩ := blk5 blk1.out) | ((with_reducible refine gate_callee (f := 46) rfl ?_); refine goesL_ (some 27) rfl rfl Try.func46 (by kernel_rfl) rfl #[.int .u64 p, .slice A1 s.length c1, .slice Ac c.length cc, .int .i64 at_] rfl (by (try simp only [List.map_toArray, List.map_cons, List.map_nil]); first | done | rfl) ?_; (with_reducible refine (series_sum.calls k p A1 c1 s Ac cc c at_ d _ ?side1 hc1 ?side2 ?side3 Ad.out).mono ?_); (case side1 => exact Kd.C_keep 0 hs.out (keep_of G1.out) hA.out); (case side2 => exact (Kd.R_reads' (Kd.R_keep hrc.out (keep_of G1.out) (fun _ h => h))).2.2); (case side3 => exact (Kd.R_reads' hrc.out).2.1); rintro e W2 ⟨rfl, hb2⟩; refine ⟨_, rfl, ?_⟩; have blk2 := Aside0.mk (blk_below blk1.out hb2); have G2 := Aside0.mk (grown_below G1.out hb2); obtain ⟨q0, q1, q2, q3, q4, f0, f1, f2, f3, f4⟩ := blk5 blk2.out; clear hb2) | ((with_reducible refine gate_callee (f := 71) rfl ?_); refine goesL_ (some 37) rfl rfl Try.func71 (by kernel_rfl) rfl #[.int .u64 p, .int .u64 d, .int .u64 left] rfl (by (try simp only [List.map_toArray, List.map_cons, List.map_nil]); first | done | rfl) ?_; (with_reducible refine (field_Div.calls k p d left x 0 _ Ax.out).mono ?_); rintro e W3 ⟨rfl, hb3⟩; refine ⟨_, rfl, ?_⟩; have blk3 := Aside0.mk (blk_below blk2.out hb3); have G3 := Aside0.mk (grown_below G2.out hb3); obtain ⟨q0, q1, q2, q3, q4, f0, f1, f2, f3, f4⟩ := blk5 blk3.out; clear hb3))
  refine st_less k p x (wrap64 (ago + 1)) _ W3 g c b z Ac Ab cc cb q0 q1 q4 f0 (Kd.R_reads' (Kd.R_keep hrc.out (keep_of G3.out) (fun _ h => h))).2.2 (Kd.R_reads' hrc.out).2.1 (Kd.C_keep 0 hbc.out (keep_of G3.out) hbn.out) hbl Az.out ?_
  intro W4 gv hb4 hz
  obtain ⟨Az_, cz, ez⟩ := Kd.R_slice hz
  subst ez
  have blk4 := Aside0.mk (blk_below blk3.out hb4)
  have G4 := Aside0.mk (grown_below G3.out hb4)
  have hgz : g < W3.heap.size := blk_lt blk3.out
  have hz := Aside0.mk (Kd.R_mono (ok' := fun k => k ≠ g) (Kd.R_bound hz) (fun k hk => by have := hk.2.1; omega))
  obtain ⟨W5, hw⟩ : ∃ W5, W5 = W4.setCell ⟨g, 0, none⟩ (.slice Az_ z.length cz) := ⟨_, rfl⟩
  rw [← hw]
  have blk5_ : Aside0 (W5.heap[g]? = some (.cells #[.slice Az_ z.length cz, .slice Ab b.length cb, .int .i64 n, .int .u64 left, .int .i64 (wrap64 (ago + 1))] 55 (0, 0))) := ⟨by rw [hw]; exact (blk_set blk4.out 0 _).trans rfl⟩
  have G5 := Aside0.mk (grown_set G4.out 0 (.slice Az_ z.length cz))
  rw [← hw] at G5
  have hz5 : Aside0 (Kd.R (Kd.int .u64) 22 W5 H (fun k => k ≠ g) (.slice Az_ z.length cz) z) := ⟨by rw [hw]; exact Kd.R_far (Kd.R_lower hz.out (Nat.le_trans hH G3.out.size)) (fun _ h => h) _⟩
  clear hw q0 q1 q2 q3 q4 f0 f1 f2 f3 f4 hb4
  obtain ⟨q0, q1, q2, q3, q4, f0, f1, f2, f3, f4⟩ := blk5 blk5_.out
  go_wp2
  go_ret
  exact ⟨rfl, ⟨Az_, cz, Ab, cb, blk5_.out, hz5.out, hbl, Kd.C_keep 0 hbc.out (keep_of G5.out) hbn.out, hbn.out⟩, G5.out⟩
theorem stp.calls (k H g : Nat) (p : Int) (A1 : Option Addr) (c1 : Nat) (s : List Int) (at_ : Int) (c b : List Int) (n left ago : Int) (r : Bool) (c' b' : List Int) (n' left' ago' : Int) (W : World) (hH : H ≤ W.heap.size)
    (hs : Kd.C (Kd.int .u64) W A1 s.length s) (hc1 : s.length ≤ c1) (hA : ∀ ad, A1 = some ad → 0 < s.length → ad.block ≠ g) (hS : Stt H g W c b n left ago) (h : stp.f k p s at_ c b n left ago = some (r, c', b', n', left', ago')) :
    Calls Try.prog 51 #[.pointer (some ⟨g, 0, none⟩), .int .u64 p, .slice A1 s.length c1, .int .i64 at_] W fun e w' => e = .returned (.bool r) ∧ Stt H g w' c' b' n' left' ago' ∧ W.grownBy w' (some g) := by
  obtain ⟨Ac, cc, Ab, cb, hblk, hrc, hbl, hbc, hbn⟩ := hS
  obtain ⟨d, hd, h⟩ := Option.bind_eq_some_iff.mp h
  by_cases c0 : d = 0
  · rw [if_pos c0] at h
    simp only [Option.some.injEq, Prod.mk.injEq] at h
    obtain ⟨rfl, rfl, rfl, rfl, rfl, rfl⟩ := h
    exact stp.way0 k H g p A1 c1 s at_ c b n left ago d W hH ⟨hs⟩ hc1 ⟨hA⟩ Ac Ab cc cb ⟨hblk⟩ ⟨hrc⟩ hbl ⟨hbc⟩ ⟨hbn⟩ ⟨hd⟩ (by simp [c0])
  · rw [if_neg c0] at h
    obtain ⟨⟨x, e⟩, hx, h⟩ := Option.bind_eq_some_iff.mp h
    by_cases ce : e = 0
    · subst ce
      rw [if_pos rfl] at h
      obtain ⟨z, hz, h⟩ := Option.bind_eq_some_iff.mp h
      by_cases cn : wrap64 (2 * n) ≤ at_
      · rw [if_pos cn] at h
        simp only [Option.some.injEq, Prod.mk.injEq] at h
        obtain ⟨rfl, rfl, rfl, rfl, rfl, rfl⟩ := h
        exact stp.way2 k H g p A1 c1 s at_ c b n left ago d x z W hH ⟨hs⟩ hc1 ⟨hA⟩ Ac Ab cc cb ⟨hblk⟩ ⟨hrc⟩ hbl ⟨hbc⟩ ⟨hbn⟩ ⟨hd⟩ (by simp [c0]) ⟨hx⟩ ⟨hz⟩ (by simp [cn])
      · rw [if_neg cn] at h
        simp only [Option.some.injEq, Prod.mk.injEq] at h
        obtain ⟨rfl, rfl, rfl, rfl, rfl, rfl⟩ := h
        exact stp.way3 k H g p A1 c1 s at_ c b n left ago d x z W hH ⟨hs⟩ hc1 ⟨hA⟩ Ac Ab cc cb ⟨hblk⟩ ⟨hrc⟩ hbl ⟨hbc⟩ ⟨hbn⟩ ⟨hd⟩ (by simp [c0]) ⟨hx⟩ ⟨hz⟩ (by simp [cn])
    · rw [if_neg ce] at h
      simp only [Option.some.injEq, Prod.mk.injEq] at h
      obtain ⟨rfl, rfl, rfl, rfl, rfl, rfl⟩ := h
      exact stp.way1 k H g p A1 c1 s at_ c b n left ago d x e W hH ⟨hs⟩ hc1 ⟨hA⟩ Ac Ab cc cb ⟨hblk⟩ ⟨hrc⟩ hbl ⟨hbc⟩ ⟨hbn⟩ ⟨hd⟩ (by simp [c0]) ⟨hx⟩ (by simp [ce])
end Go.Proofs.Ytffcjgelcdilcaa.Sr

/- affidavitref04.Can: two rows change places, and Can's walk. -/
import Derived.Test.YtffcjgelcdilcaaBack
import Derived.Test.YtffcjgelcdilcaaPSerx8
import Derived.Test.YtffcjgelcdilcaaPSerx7
set_option linter.unusedVariables false
set_option linter.unusedSimpArgs false
set_option linter.unusedSectionVars false
namespace Go.Proofs.Ytffcjgelcdilcaa.Cn
open Go.RowKit Go.Shelf Go.Proofs Go.Proofs.Ytffcjgelcdilcaa.PSer Go.Proofs.YtffcjgelcdilcaaW.PrintWords Go.Proofs.YtffcjgelcdilcaaW.PrintLast Go.Proofs.YtffcjgelcdilcaaW.PrintMore Go.Proofs.Ytffcjgelcdilcaa.Rd

def cn_T22 : Bool × List (List Nat × List Nat) := (true, [([], []), ([], []), ([], []), ([], []), ([], []), ([], []), ([4, 5], [4, 5]), ([6], [6]), ([], []), ([], []), ([8, 9], [8, 9]), ([10], [10]), ([0, 1, 0, 1, 4, 5, 6, 7, 11], [0, 1]), ([12, 7, 0, 1, 4, 5, 6, 7, 11], [7, 12]), ([2, 3, 0, 1, 2, 3, 4, 5, 6, 7, 8, 9, 10, 11, 12, 13], [2, 3]), ([14, 11, 13, 0, 1, 2, 3, 4, 5, 6, 7, 8, 9, 10, 11, 12, 13], [11, 14])])
def cn_B22 : List Nat := [0, 0, 0, 0, 0, 0, 48, 112, 0, 0, 768, 1792, 4083, 8179, 16383, 32767]
theorem cn_tab22 : rtab .any (opsOf Try.f53 22) = cn_T22 := by kernel_rfl
theorem cn_bits22 : waitsOk cn_T22.2 cn_B22 = true := by kernel_rfl

set_option maxHeartbeats 8000000 in
set_option maxRecDepth 100000 in
theorem cn_swap (Q : Exit → Act → World → Prop) (W : World) (g i j n cap : Nat) (Ai Aj : Option Addr) (ni nj ci cj : Nat) {u0 u1 u2 u3 u4 u5 u6 u8 u9 u10 u12 u14 u15 u16 u17 u18 u19 u20 u21 u22 u23 u24 u25 u26 u27 u28 u29 u30 u31 u32 u33 u34 u35 u36 u37 u38 u39 u40 u41 u42 u43 u44 u45 u46 u47 u48 u49 u50 u51 u52 u53 u54 u55 u56 u57 u58 u59 u60 u61 u62 u63 u64 u65 u66 u67 u68 u69 u70 u71 u72 u73 u74 u75 u76 u77 u78 u79 u80 u81 u82 u83 u84 u85 u86 u87 u88 u89 u90 u91 u92 u93 u94 u95 u96 u97 u98 u99 u100 u101 u102 u103 u104 u105 u106 u107 u108 u109 u110 u111 u112 u113 u114 u115 u116 u117 u118 u119 u120 u121 u122 u123 u124 u125 u126 u127 u128 u129 u130 u131 u132 u133 u134 u135 u136 u137 u138 u139 u140 u141 u142 u143 u144 u145 u146 u147 u148 u149 u150 u151 u152 u153 u154 u155 u156 u157 u158 u159 u160 u161 u162 u163 u164 u165 u166 u167 u168 u169 u170 u171 u172 : Value} (ii jj : Int) (hii : ii = (i : Int)) (hjj : jj = (j : Int)) (hi : i < n) (hj : j < n)
    (h0 : W.cell? ⟨g, i, none⟩ = some (.slice Ai ni ci)) (h2 : W.cell? ⟨g, j, none⟩ = some (.slice Aj nj cj)) (hf : ∀ k, W.frozen? ⟨g, k, none⟩ = false)
    (hQ : ∀ w', w' = ((W.drew.setCell ⟨g, i, none⟩ (.slice Aj nj cj)).setCell ⟨g, j, none⟩ (.slice Ai ni ci)) → Q .normal { tmps := #[u0, u1, u2, u3, u4, u5, u6, .slice (some ⟨g, 0, none⟩) n cap, u8, u9, u10, .int .i64 ii, u12, .int .i64 jj, u14, u15, u16, u17, u18, u19, u20, u21, u22, u23, u24, u25, u26, u27, u28, u29, u30, u31, u32, u33, u34, u35, u36, u37, u38, u39, u40, u41, u42, u43, u44, u45, u46, u47, u48, u49, u50, u51, u52, u53, u54, u55, u56, u57, u58, u59, u60, u61, u62, u63, u64, u65, u66, u67, u68, u69, u70, u71, u72, u73, u74, u75, u76, u77, u78, u79, u80, .slice (some ⟨g, 0, none⟩) n cap, .int .i64 ii, .slice (some ⟨g, 0, none⟩) n cap, .int .i64 jj, .slice (some ⟨g, 0, none⟩) n cap, .int .i64 jj, .pointer (some ⟨g, j, none⟩), .slice Aj nj cj, .slice (some ⟨g, 0, none⟩) n cap, .int .i64 ii, .pointer (some ⟨g, i, none⟩), .slice Ai ni ci, .pointer (some ⟨g, i, none⟩), .pointer (some ⟨g, j, none⟩), u95, u96, u97, u98, u99, u100, u101, u102, u103, u104, u105, u106, u107, u108, u109, u110, u111, u112, u113, u114, u115, u116, u117, u118, u119, u120, u121, u122, u123, u124, u125, u126, u127, u128, u129, u130, u131, u132, u133, u134, u135, u136, u137, u138, u139, u140, u141, u142, u143, u144, u145, u146, u147, u148, u149, u150, u151, u152, u153, u154, u155, u156, u157, u158, u159, u160, u161, u162, u163, u164, u165, u166, u167, u168, u169, u170, u171, u172], defers := [] } w') :
    (Code.region 22 (opsOf Try.f53 22) true).wp Try.prog Q
      { tmps := #[u0, u1, u2, u3, u4, u5, u6, .slice (some ⟨g, 0, none⟩) n cap, u8, u9, u10, .int .i64 ii, u12, .int .i64 jj, u14, u15, u16, u17, u18, u19, u20, u21, u22, u23, u24, u25, u26, u27, u28, u29, u30, u31, u32, u33, u34, u35, u36, u37, u38, u39, u40, u41, u42, u43, u44, u45, u46, u47, u48, u49, u50, u51, u52, u53, u54, u55, u56, u57, u58, u59, u60, u61, u62, u63, u64, u65, u66, u67, u68, u69, u70, u71, u72, u73, u74, u75, u76, u77, u78, u79, u80, u81, u82, u83, u84, u85, u86, u87, u88, u89, u90, u91, u92, u93, u94, u95, u96, u97, u98, u99, u100, u101, u102, u103, u104, u105, u106, u107, u108, u109, u110, u111, u112, u113, u114, u115, u116, u117, u118, u119, u120, u121, u122, u123, u124, u125, u126, u127, u128, u129, u130, u131, u132, u133, u134, u135, u136, u137, u138, u139, u140, u141, u142, u143, u144, u145, u146, u147, u148, u149, u150, u151, u152, u153, u154, u155, u156, u157, u158, u159, u160, u161, u162, u163, u164, u165, u166, u167, u168, u169, u170, u171, u172], defers := [] } W := by
  subst hii hjj
  simp only [opsOf, Try.f53, opsIn, Option.bind_some, Option.bind, Option.getD, beq_iff_eq, if_true, if_false, Nat.reduceBEq, Bool.false_eq_true, Nat.reduceEqDiff]
  refine Code.wp_mono (Q := fun e a w' => e = .normal ∧ a = { tmps := #[u0, u1, u2, u3, u4, u5, u6, .slice (some ⟨g, 0, none⟩) n cap, u8, u9, u10, .int .i64 (i : Int), u12, .int .i64 (j : Int), u14, u15, u16, u17, u18, u19, u20, u21, u22, u23, u24, u25, u26, u27, u28, u29, u30, u31, u32, u33, u34, u35, u36, u37, u38, u39, u40, u41, u42, u43, u44, u45, u46, u47, u48, u49, u50, u51, u52, u53, u54, u55, u56, u57, u58, u59, u60, u61, u62, u63, u64, u65, u66, u67, u68, u69, u70, u71, u72, u73, u74, u75, u76, u77, u78, u79, u80, .slice (some ⟨g, 0, none⟩) n cap, .int .i64 (i : Int), .slice (some ⟨g, 0, none⟩) n cap, .int .i64 (j : Int), .slice (some ⟨g, 0, none⟩) n cap, .int .i64 (j : Int), .pointer (some ⟨g, j, none⟩), .slice Aj nj cj, .slice (some ⟨g, 0, none⟩) n cap, .int .i64 (i : Int), .pointer (some ⟨g, i, none⟩), .slice Ai ni ci, .pointer (some ⟨g, i, none⟩), .pointer (some ⟨g, j, none⟩), u95, u96, u97, u98, u99, u100, u101, u102, u103, u104, u105, u106, u107, u108, u109, u110, u111, u112, u113, u114, u115, u116, u117, u118, u119, u120, u121, u122, u123, u124, u125, u126, u127, u128, u129, u130, u131, u132, u133, u134, u135, u136, u137, u138, u139, u140, u141, u142, u143, u144, u145, u146, u147, u148, u149, u150, u151, u152, u153, u154, u155, u156, u157, u158, u159, u160, u161, u162, u163, u164, u165, u166, u167, u168, u169, u170, u171, u172], defers := [] } ∧ w' = ((W.drew.setCell ⟨g, i, none⟩ (.slice Aj nj cj)).setCell ⟨g, j, none⟩ (.slice Ai ni ci))) ?_ ?_
  · rintro e a w' ⟨rfl, rfl, rfl⟩
    exact hQ _ rfl
  clear hQ
  have bi : decide ((i : Int) < (n : Int)) = true := decide_eq_true (by omega)
  have bj : decide ((j : Int) < (n : Int)) = true := decide_eq_true (by omega)
  have bi1 : (i : Int) < (n : Int) := by omega
  have bj1 : (j : Int) < (n : Int) := by omega
  have ai : (⟨g, 0, none⟩ : Addr).add i = ⟨g, i, none⟩ := add_plain g i
  have aj : (⟨g, 0, none⟩ : Addr).add j = ⟨g, j, none⟩ := add_plain g j
  have f1 : W.drew.frozen? ⟨g, i, none⟩ = false := hf i
  have f2 : (W.drew.setCell ⟨g, i, none⟩ (.slice Aj nj cj)).frozen? ⟨g, j, none⟩ = false := by rw [World.frozen?_setCell]; exact hf j
  obtain ⟨vx, hvx⟩ := cell?_setCell_some (p := ⟨g, i, none⟩) (x := .slice Aj nj cj) h2
  refine start_ (n := 16) (S := fun w' => w'.cell? ⟨g, i, none⟩ = some (.slice Ai ni ci) ∧ w'.cell? ⟨g, j, none⟩ = some (.slice Aj nj cj)) (ds := [13, 15]) #[false, false, false, false, false, false, false, false, false, false, false, false, false, false, false, false] (by kernel_rfl) rfl rfl ⟨h0, h2⟩ (fun hHeld => ?_)
  refine with_tabW cn_tab22 cn_bits22 (fun HT_ HW_ => ?_)
  refine pure_ (i := 0) (N := some 81) (v := .slice (some ⟨g, 0, none⟩) n cap) (a' := ?_) #[true, false, false, false, false, false, false, false, false, false, false, false, false, false, false, false] rfl rfl (any_of HT_.out (by kernel_rfl)) (fun _ _ _ h => by cases h.1) (Or.inl ⟨by rfl, ?_⟩) ?_ ?_
  · intro w'
    go_simp
    try with_reducible rfl
  rotate_left
  · simp only [Act.put, List.setIfInBounds_toArray, List.set_cons_zero, List.set_cons_succ]
    rfl
  refine pure_ (i := 1) (N := some 82) (v := .int .i64 (i : Int)) (a' := ?_) #[true, true, false, false, false, false, false, false, false, false, false, false, false, false, false, false] rfl rfl (any_of HT_.out (by kernel_rfl)) (fun _ _ _ h => by cases h.1) (Or.inl ⟨by rfl, ?_⟩) ?_ ?_
  · intro w'
    go_simp
    try with_reducible rfl
  rotate_left
  · simp only [Act.put, List.setIfInBounds_toArray, List.set_cons_zero, List.set_cons_succ]
    rfl
  refine pure_ (i := 2) (N := some 83) (v := .slice (some ⟨g, 0, none⟩) n cap) (a' := ?_) #[true, true, true, false, false, false, false, false, false, false, false, false, false, false, false, false] rfl rfl (any_of HT_.out (by kernel_rfl)) (fun _ _ _ h => by cases h.1) (Or.inl ⟨by rfl, ?_⟩) ?_ ?_
  · intro w'
    go_simp
    try with_reducible rfl
  rotate_left
  · simp only [Act.put, List.setIfInBounds_toArray, List.set_cons_zero, List.set_cons_succ]
    rfl
  refine pure_ (i := 3) (N := some 84) (v := .int .i64 (j : Int)) (a' := ?_) #[true, true, true, true, false, false, false, false, false, false, false, false, false, false, false, false] rfl rfl (any_of HT_.out (by kernel_rfl)) (fun _ _ _ h => by cases h.1) (Or.inl ⟨by rfl, ?_⟩) ?_ ?_
  · intro w'
    go_simp
    try with_reducible rfl
  rotate_left
  · simp only [Act.put, List.setIfInBounds_toArray, List.set_cons_zero, List.set_cons_succ]
    rfl
  refine pure_ (i := 4) (N := some 85) (v := .slice (some ⟨g, 0, none⟩) n cap) (a' := ?_) #[true, true, true, true, true, false, false, false, false, false, false, false, false, false, false, false] rfl rfl (any_of HT_.out (by kernel_rfl)) (fun _ _ _ h => by cases h.1) (Or.inl ⟨by rfl, ?_⟩) ?_ ?_
  · intro w'
    go_simp
    try with_reducible rfl
  rotate_left
  · simp only [Act.put, List.setIfInBounds_toArray, List.set_cons_zero, List.set_cons_succ]
    rfl
  refine pure_ (i := 5) (N := some 86) (v := .int .i64 (j : Int)) (a' := ?_) #[true, true, true, true, true, true, false, false, false, false, false, false, false, false, false, false] rfl rfl (any_of HT_.out (by kernel_rfl)) (fun _ _ _ h => by cases h.1) (Or.inl ⟨by rfl, ?_⟩) ?_ ?_
  · intro w'
    go_simp
    try with_reducible rfl
  rotate_left
  · simp only [Act.put, List.setIfInBounds_toArray, List.set_cons_zero, List.set_cons_succ]
    rfl
  refine pure_ (i := 6) (N := some 87) (v := .pointer (some ⟨g, j, none⟩)) (a' := ?_) #[true, true, true, true, true, true, true, false, false, false, false, false, false, false, false, false] rfl rfl (any_of HT_.out (by kernel_rfl)) (fun _ _ _ h => by cases h.1) (Or.inl ⟨by rfl, ?_⟩) ?_ ?_
  · intro w'
    go_simp
    first | done | (simp only [Int.toNat_natCast, ai, aj]; done) | (rw [ai]) | (rw [aj])
  rotate_left
  · simp only [Act.put, List.setIfInBounds_toArray, List.set_cons_zero, List.set_cons_succ]
    rfl
  refine take_ (i := 7) (N := some 88) (v := .slice Aj nj cj) (a' := ?_) #[true, true, true, true, true, true, true, true, false, false, false, false, false, false, false, false] rfl rfl (take_ofW HT_.out HW_.out (by kernel_rfl)) (fun _ _ _ h => by cases h.1) (Or.inl ⟨by rfl, ?_⟩) hHeld ?_ ?_
  · intro w' s0
    obtain ⟨s1, s2⟩ := s0
    go_simp
    try with_reducible rfl
  rotate_left
  · simp only [Act.put, List.setIfInBounds_toArray, List.set_cons_zero, List.set_cons_succ]
    rfl
  refine pure_ (i := 8) (N := some 89) (v := .slice (some ⟨g, 0, none⟩) n cap) (a' := ?_) #[true, true, true, true, true, true, true, true, true, false, false, false, false, false, false, false] rfl rfl (any_of HT_.out (by kernel_rfl)) (fun _ _ _ h => by cases h.1) (Or.inl ⟨by rfl, ?_⟩) ?_ ?_
  · intro w'
    go_simp
    try with_reducible rfl
  rotate_left
  · simp only [Act.put, List.setIfInBounds_toArray, List.set_cons_zero, List.set_cons_succ]
    rfl
  refine pure_ (i := 9) (N := some 90) (v := .int .i64 (i : Int)) (a' := ?_) #[true, true, true, true, true, true, true, true, true, true, false, false, false, false, false, false] rfl rfl (any_of HT_.out (by kernel_rfl)) (fun _ _ _ h => by cases h.1) (Or.inl ⟨by rfl, ?_⟩) ?_ ?_
  · intro w'
    go_simp
    try with_reducible rfl
  rotate_left
  · simp only [Act.put, List.setIfInBounds_toArray, List.set_cons_zero, List.set_cons_succ]
    rfl
  refine pure_ (i := 10) (N := some 91) (v := .pointer (some ⟨g, i, none⟩)) (a' := ?_) #[true, true, true, true, true, true, true, true, true, true, true, false, false, false, false, false] rfl rfl (any_of HT_.out (by kernel_rfl)) (fun _ _ _ h => by cases h.1) (Or.inl ⟨by rfl, ?_⟩) ?_ ?_
  · intro w'
    go_simp
    first | done | (simp only [Int.toNat_natCast, ai, aj]; done) | (rw [ai]) | (rw [aj])
  rotate_left
  · simp only [Act.put, List.setIfInBounds_toArray, List.set_cons_zero, List.set_cons_succ]
    rfl
  refine take_ (i := 11) (N := some 92) (v := .slice Ai ni ci) (a' := ?_) #[true, true, true, true, true, true, true, true, true, true, true, true, false, false, false, false] rfl rfl (take_ofW HT_.out HW_.out (by kernel_rfl)) (fun _ _ _ h => by cases h.1) (Or.inl ⟨by rfl, ?_⟩) hHeld ?_ ?_
  · intro w' s0
    obtain ⟨s1, s2⟩ := s0
    go_simp
    try with_reducible rfl
  rotate_left
  · simp only [Act.put, List.setIfInBounds_toArray, List.set_cons_zero, List.set_cons_succ]
    rfl
  refine pure_ (i := 12) (N := some 93) (v := .pointer (some ⟨g, i, none⟩)) (a' := ?_) #[true, true, true, true, true, true, true, true, true, true, true, true, true, false, false, false] rfl rfl (any_of HT_.out (by kernel_rfl)) (fun _ _ _ h => by cases h.1) (Or.inl ⟨by rfl, ?_⟩) ?_ ?_
  · intro w'
    go_simp
    first | done | (simp only [Int.toNat_natCast, ai, aj]; done) | (rw [ai]) | (rw [aj])
  rotate_left
  · simp only [Act.put, List.setIfInBounds_toArray, List.set_cons_zero, List.set_cons_succ]
    rfl
  refine last_ (i := 13) (N := none) #[true, true, true, true, true, true, true, true, true, true, true, true, true, true, false, false] rfl rfl (one_of HT_.out (by kernel_rfl)) (by decide) (fun K hK => ?_)
  refine skip_ (w1 := (W.drew.setCell ⟨g, i, none⟩ (.slice Aj nj cj))) (by rfl) rfl ?_ ?_
  · go_simp
    try rfl
  refine hK.out _ _ ?_
  clear hK K
  refine pure_ (i := 14) (N := some 94) (v := .pointer (some ⟨g, j, none⟩)) (a' := ?_) #[true, true, true, true, true, true, true, true, true, true, true, true, true, true, true, false] rfl rfl (any_of HT_.out (by kernel_rfl)) (fun _ _ _ h => by cases h.1) (Or.inl ⟨by rfl, ?_⟩) ?_ ?_
  · intro w'
    go_simp
    first | done | (simp only [Int.toNat_natCast, ai, aj]; done) | (rw [ai]) | (rw [aj])
  rotate_left
  · simp only [Act.put, List.setIfInBounds_toArray, List.set_cons_zero, List.set_cons_succ]
    rfl
  refine last_ (i := 15) (N := none) #[true, true, true, true, true, true, true, true, true, true, true, true, true, true, true, true] rfl rfl (one_of HT_.out (by kernel_rfl)) (by decide) (fun K hK => ?_)
  refine skip_ (w1 := ((W.drew.setCell ⟨g, i, none⟩ (.slice Aj nj cj)).setCell ⟨g, j, none⟩ (.slice Ai ni ci))) (by rfl) rfl ?_ ?_
  · go_simp
    try rfl
  refine hK.out _ _ ?_
  clear hK K
  refine done_ (done_of HT_.out (by kernel_rfl)) ?_
  exact ⟨rfl, rfl, rfl⟩

theorem info23 : (Try.prog.info? 23).map (fun i => (i.zero, i.size, i.bytes)) = some (some (.slice none 0 0), 1, 24) := by kernel_rfl
def rd_L1 (xs : List (List Int)) (i : Int) : (List Int) := xs.getD i.toNat ([] : List Int)
theorem at_L1 {w : World} {A : Option Addr} {n : Nat} {xs : List (List Int)} (h : Kd.C (Kd.slice 22 (Kd.int .u64)) w A n xs) (i : Int) (h0 : 0 ≤ i) (h1 : i < n) : ∃ ad A0 c0, A = some ad ∧ w.cell? (ad.add i.toNat) = some (.slice A0 (rd_L1 xs i).length c0) ∧ (rd_L1 xs i).length ≤ c0 ∧ (Kd.int .u64).C w A0 (rd_L1 xs i).length (rd_L1 xs i) := by
  obtain ⟨ad, c, e, _, hK, hc0⟩ := Kd.C_get h ([] : List Int) i h0 h1
  have hc : ∀ j u, c[j]? = some u → w.cell? (ad.add (i.toNat * 1 + j)) = some u := hc0
  obtain ⟨A0, c0, rfl, l0, g0⟩ := hK
  exact ⟨ad, A0, c0, e, by have hq := hc 0 _ rfl; rwa [Nat.mul_one, Nat.add_zero] at hq, l0, g0⟩

/-- Two rows change places. -/
def swp (xs : List (List Int)) (i j : Nat) : List (List Int) := (xs.set i (xs.getD j [])).set j (xs.getD i [])
theorem swp_length (xs : List (List Int)) (i j : Nat) : (swp xs i j).length = xs.length := by unfold swp; rw [List.length_set, List.length_set]
theorem take_one {cs : List Value} {t : Nat} {u : Value} (h : cs[t]? = some u) : (cs.drop (t * 1)).take 1 = [u] := by
  rw [Nat.mul_one, List.take_one, List.head?_drop, h]; rfl
section
variable {e base g n cap : Nat} {ok : Nat → Prop} {W : World} {xs : List (List Int)}
theorem row_cells (h : Kd.S (Kd.slice e (Kd.int .u64)) 23 W base ok (.slice (some ⟨g, 0, none⟩) n cap) xs) : ∃ (f : Nat → Nat) (cs : List Value), (∀ k, (Value.slice (some ⟨g, 0, none⟩) n cap).ownBlock = some k → ok k) ∧ n = xs.length ∧ W.ownsRow base 23 1 (.slice (some ⟨g, 0, none⟩) n cap) n cs ∧ cs.length = n ∧ (∀ t x, xs[t]? = some x → (Kd.slice e (Kd.int .u64)).M W base (fun k => (ok k ∧ some k ≠ (Value.slice (some ⟨g, 0, none⟩) n cap).ownBlock) ∧ f k = t) x ((cs.drop (t * 1)).take 1)) ∧ (∀ t, t < n → W.cell? ⟨g, t, none⟩ = cs[t]?) := by
  obtain ⟨f, h0, cs, ho, hr⟩ := h
  rw [List.length_zipIdx] at ho
  have hn : n = xs.length := (Kd.S_reads' (show Kd.S (Kd.slice e (Kd.int .u64)) 23 W base ok (.slice (some ⟨g, 0, none⟩) n cap) xs from ⟨f, h0, cs, by rw [List.length_zipIdx]; exact ho, hr⟩)).1
  have hl : cs.length = n := by have := hr.1; rw [List.length_zipIdx] at this; rw [this, hn]; exact Nat.mul_one _
  rw [← hn] at ho
  refine ⟨f, cs, h0, hn, ho, hl, fun t x hx => hr.2 t (x, t) (Kd.zip_at hx), fun t ht => ?_⟩
  rcases ho.2 with ⟨hv, _⟩ | ⟨g', cap', cur, hv, hg, hh, h3, h4, h5, h6⟩
  · cases hv
  · injection hv with ha _ _
    injection ha with ha
    injection ha with ha _
    subst ha
    rw [blk_cell hh, ← h6, List.getElem?_take]
    rw [if_pos (by show t < n * 1; omega), Array.getElem?_toList]
theorem cell_row (h : Kd.S (Kd.slice e (Kd.int .u64)) 23 W base ok (.slice (some ⟨g, 0, none⟩) n cap) xs) {t : Nat} (ht : t < xs.length) : ∃ A c, W.cell? ⟨g, t, none⟩ = some (.slice A (xs.getD t []).length c) := by
  obtain ⟨f, cs, h0, hn, ho, hl, hr, hc⟩ := row_cells h
  have hx : xs[t]? = some (xs.getD t []) := by rw [List.getD_eq_getElem?_getD, List.getElem?_eq_getElem ht]; rfl
  have h1 := hr t _ hx
  have hu : cs[t]? = some (cs[t]'(by omega)) := List.getElem?_eq_getElem (by omega)
  rw [take_one hu] at h1
  obtain ⟨v, hv, hR⟩ := h1
  obtain ⟨A, c, hA⟩ := Kd.R_slice hR
  refine ⟨A, c, ?_⟩
  rw [hc t (by omega), hu]
  have : cs[t]'(by omega) = v := by simpa using hv
  rw [this, hA]
theorem frozen_row (h : Kd.S (Kd.slice e (Kd.int .u64)) 23 W base ok (.slice (some ⟨g, 0, none⟩) n cap) xs) (k : Nat) : W.frozen? ⟨g, k, none⟩ = false := by
  obtain ⟨f, cs, h0, hn, ho, hl, hr, hc⟩ := row_cells h
  rcases ho.2 with ⟨hv, _⟩ | ⟨g', cap', cur, hv, hg, hh, _⟩
  · cases hv
  · injection hv with ha _ _
    injection ha with ha
    injection ha with ha _
    subst ha
    exact blk_frozen hh k
theorem S_swap (h : Kd.S (Kd.slice e (Kd.int .u64)) 23 W base ok (.slice (some ⟨g, 0, none⟩) n cap) xs) {i j : Nat} (hi : i < xs.length) (hj : j < xs.length) {vi vj : Value} (hvi : W.cell? ⟨g, i, none⟩ = some vi) (hvj : W.cell? ⟨g, j, none⟩ = some vj) :
    Kd.S (Kd.slice e (Kd.int .u64)) 23 ((W.setCell ⟨g, i, none⟩ vj).setCell ⟨g, j, none⟩ vi) base ok (.slice (some ⟨g, 0, none⟩) n cap) (swp xs i j) ∧ W.grownBy ((W.setCell ⟨g, i, none⟩ vj).setCell ⟨g, j, none⟩ vi) (some g) := by
  obtain ⟨f, cs, h0, hn, ho, hl, hr, hc⟩ := row_cells h
  rw [hc i (by omega)] at hvi
  rw [hc j (by omega)] at hvj
  obtain ⟨s1, g1⟩ := ho.stored i vj
  obtain ⟨s2, g2⟩ := s1.stored j vi
  have g12 : W.grownBy ((W.setCell ⟨g, i, none⟩ vj).setCell ⟨g, j, none⟩ vi) (some g) :=
    ⟨g2.os.trans g1.os, g2.tape.trans g1.tape, g2.output.trans g1.output, Nat.le_trans g1.size g2.size, fun k hk hne => (g2.block k (Nat.lt_of_lt_of_le hk g1.size) hne).trans (g1.block k hk hne)⟩
  refine ⟨⟨fun k => if f k = i then j else if f k = j then i else f k, h0, (cs.set i vj).set j vi, ?_, ?_, ?_⟩, g12⟩
  · rw [List.length_zipIdx, swp_length, ← hn]; exact s2
  · rw [List.length_zipIdx, swp_length, List.length_set, List.length_set, hl, hn]; exact (Nat.mul_one _).symm
  · intro t p hp
    rw [List.getElem?_zipIdx, Nat.zero_add] at hp
    obtain ⟨x, hx, rfl⟩ := Option.map_eq_some_iff.1 hp
    have moved : ∀ (okk : Nat → Prop) (t0 : Nat) (x : List Int) (u : Value), (∀ k, okk k → ((ok k ∧ some k ≠ (Value.slice (some ⟨g, 0, none⟩) n cap).ownBlock) ∧ (if f k = i then j else if f k = j then i else f k) = t)) → (Kd.slice e (Kd.int .u64)).M W base okk x [u] →
        (Kd.slice e (Kd.int .u64)).M ((W.setCell ⟨g, i, none⟩ vj).setCell ⟨g, j, none⟩ vi) base (fun k => (ok k ∧ some k ≠ (Value.slice (some ⟨g, 0, none⟩) n cap).ownBlock) ∧ (if f k = i then j else if f k = j then i else f k) = t) x [u] := fun okk t0 x u hk hM => by
      have hM2 := (Kd.slice e (Kd.int .u64)).M_bound hM
      refine (Kd.slice e (Kd.int .u64)).M_move (w := W) (fun k hk' => ?_) ((Kd.slice e (Kd.int .u64)).M_mono (ok' := fun k => ((ok k ∧ some k ≠ (Value.slice (some ⟨g, 0, none⟩) n cap).ownBlock) ∧ (if f k = i then j else if f k = j then i else f k) = t) ∧ k < W.heap.size) (fun k hk' => ⟨hk k hk'.1, hk'.2.2.1⟩) hM2) |> fun r => (Kd.slice e (Kd.int .u64)).M_mono (fun k hk' => hk'.1) r
      exact g12.block k hk'.2 (fun e => hk'.1.1.2 (by rw [e]; simp [Value.ownBlock]))
    show (Kd.slice e (Kd.int .u64)).M _ base _ x ((((cs.set i vj).set j vi).drop (t * 1)).take 1)
    have hget : ∀ t : Nat, t < n → xs[t]? = some (xs.getD t []) := fun t ht => by rw [List.getD_eq_getElem?_getD, List.getElem?_eq_getElem (by omega)]; rfl
    by_cases e1 : t = j
    · subst e1
      have hx' : xs.getD i [] = x := by
        unfold swp at hx
        rw [List.getElem?_set_self (by rw [List.length_set]; exact hj)] at hx
        exact Option.some.inj hx
      rw [take_one (u := vi) (List.getElem?_set_self (by rw [List.length_set, hl]; omega)), ← hx']
      have h1 := hr i _ (hget i (by omega))
      rw [take_one hvi] at h1
      exact moved _ t _ _ (fun k hk => ⟨hk.1, by rw [if_pos hk.2]⟩) h1
    · by_cases e2 : t = i
      · subst e2
        have hx' : xs.getD j [] = x := by
          unfold swp at hx
          rw [List.getElem?_set_ne (by omega), List.getElem?_set_self hi] at hx
          exact Option.some.inj hx
        rw [take_one (u := vj) (by rw [List.getElem?_set_ne (by omega), List.getElem?_set_self (by omega)]), ← hx']
        have h1 := hr j _ (hget j (by omega))
        rw [take_one hvj] at h1
        exact moved _ t _ _ (fun k hk => ⟨hk.1, by rw [if_neg (by rw [hk.2]; omega), if_pos hk.2]⟩) h1
      · have hx' : xs[t]? = some x := by
          unfold swp at hx
          rwa [List.getElem?_set_ne (by omega), List.getElem?_set_ne (by omega)] at hx
        have htn : t < n := by rw [hn]; exact (List.getElem?_eq_some_iff.1 hx').1
        have hu : cs[t]? = some (cs[t]'(by omega)) := List.getElem?_eq_getElem (by omega)
        rw [take_one (u := cs[t]'(by omega)) (by rw [List.getElem?_set_ne (by omega), List.getElem?_set_ne (by omega), hu])]
        have h1 := hr t _ hx'
        rw [take_one hu] at h1
        exact moved _ t _ _ (fun k hk => ⟨hk.1, by rw [if_neg (by rw [hk.2]; omega), if_neg (by rw [hk.2]; omega)]; exact hk.2⟩) h1
theorem below_grown_own {w W' : World} (h : Below w.heap.size w W) (hS : Kd.S (Kd.slice e (Kd.int .u64)) 23 W w.heap.size ok (.slice (some ⟨g, 0, none⟩) n cap) xs) (hg : W.grownBy W' (some g)) : Below w.heap.size w W' :=
  ⟨hg.os.trans h.os, hg.tape.trans h.tape, hg.output.trans h.output, Nat.le_trans h.size hg.size, fun k hk => (hg.block k (Nat.lt_of_lt_of_le hk h.size) (by
    have := Kd.S_base hS g (by simp [Value.ownBlock])
    intro e; injection e with e; omega)).trans (h.block k hk)⟩
end
mutual
def affidavitref04_Can.l0 : Nat → Int → List Int → Int → List (List Int) → Int → Option (Bool)
  | 0, _, _, _, _, _ => none
  | k + 1, x0, x1, x2, x7, x8 => if x8 < (x1.length : Int) then (affidavitref04_Can.l1 k x0 x1 x2 x7 x8 ([] : List Int) 1) else (affidavitref04_Can.l2 k x0 x2 x7 0 0)
def affidavitref04_Can.l1 : Nat → Int → List Int → Int → List (List Int) → Int → List Int → Int → Option (Bool)
  | 0, _, _, _, _, _, _, _ => none
  | k + 1, x0, x1, x2, x7, x8, x9, x10 => if x10 ≤ x2 then (if 0 ≤ (wrap64 (x8 - x10)) then (if (wrap64 (x8 - x10)) < (x1.length : Int) then (if x9.length < 17592186044416 then (affidavitref04_Can.l1 k x0 x1 x2 x7 x8 (x9 ++ [rd x1 (wrap64 (x8 - x10))]) (wrap64 (x10 + 1))) else (none)) else (none)) else (none)) else (if 0 ≤ x8 then (if x8 < (x1.length : Int) then ((affidavitref01_Sub.f x0 0 (rd x1 x8)).bind fun t292 => (if x9.length < 17592186044416 then (if x7.length < 5864062014805 then (affidavitref04_Can.l0 k x0 x1 x2 (x7 ++ [(x9 ++ [t292])]) (wrap64 (x8 + 1))) else (none)) else (none))) else (none)) else (none))
def affidavitref04_Can.l2 : Nat → Int → Int → List (List Int) → Int → Int → Option (Bool)
  | 0, _, _, _, _, _ => none
  | k + 1, x0, x2, x7, x11, x12 => if x12 < x2 then (affidavitref04_Can.l3 k x0 x2 x7 x11 x12 (-1) x11) else (affidavitref04_Can.l6 k x2 x7 x11)
def affidavitref04_Can.l3 : Nat → Int → Int → List (List Int) → Int → Int → Int → Int → Option (Bool)
  | 0, _, _, _, _, _, _, _ => none
  | k + 1, x0, x2, x7, x11, x12, x13, x14 => if x14 < (x7.length : Int) then (if 0 ≤ x14 then (if 0 ≤ x12 then (if x12 < ((rd_L1 x7 x14).length : Int) then (if (rd (rd_L1 x7 x14) x12) = 0 then (affidavitref04_Can.l3 k x0 x2 x7 x11 x12 x13 (wrap64 (x14 + 1))) else (if x13 < 0 then (affidavitref04_Can.l3 k x0 x2 x7 x11 x12 x14 (wrap64 (x14 + 1))) else (affidavitref04_Can.l3 k x0 x2 x7 x11 x12 x13 (wrap64 (x14 + 1))))) else (none)) else (none)) else (none)) else (if x13 < 0 then (affidavitref04_Can.l2 k x0 x2 x7 x11 (wrap64 (x12 + 1))) else (if 0 ≤ x11 ∧ x11 < (x7.length : Int) ∧ 0 ≤ x13 ∧ x13 < (x7.length : Int) then ((some (swp x7 x11.toNat x13.toNat)).bind fun y7 => (if 0 ≤ x11 then (if x11 < (y7.length : Int) then (if 0 ≤ x12 then (if x12 < ((rd_L1 y7 x11).length : Int) then ((affidavitref01_Inv.f k x0 (rd (rd_L1 y7 x11) x12)).bind fun bt303 => (affidavitref04_Can.l4 k x0 x2 y7 x11 x12 bt303.1 (wrap64 (x11 + 1)))) else (none)) else (none)) else (none)) else (none))) else (none)))
def affidavitref04_Can.l4 : Nat → Int → Int → List (List Int) → Int → Int → Int → Int → Option (Bool)
  | 0, _, _, _, _, _, _, _ => none
  | k + 1, x0, x2, x7, x11, x12, x15, x17 => if x17 < (x7.length : Int) then (if 0 ≤ x17 then (if 0 ≤ x12 then (if x12 < ((rd_L1 x7 x17).length : Int) then ((affidavitref01_Mul.f k x0 (rd (rd_L1 x7 x17) x12) x15).bind fun t307 => (affidavitref04_Can.l5 k x0 x2 x7 x11 x12 x15 x17 t307 x12)) else (none)) else (none)) else (none)) else (affidavitref04_Can.l2 k x0 x2 x7 (wrap64 (x11 + 1)) (wrap64 (x12 + 1)))
def affidavitref04_Can.l5 : Nat → Int → Int → List (List Int) → Int → Int → Int → Int → Int → Int → Option (Bool)
  | 0, _, _, _, _, _, _, _, _, _ => none
  | k + 1, x0, x2, x7, x11, x12, x15, x17, x18, x19 => if x19 ≤ x2 then (if 0 ≤ x17 then (if x17 < (x7.length : Int) then (if 0 ≤ x19 then (if x19 < ((rd_L1 x7 x17).length : Int) then (if 0 ≤ x11 then (if x11 < (x7.length : Int) then (if x19 < ((rd_L1 x7 x11).length : Int) then ((affidavitref01_Mul.f k x0 x18 (rd (rd_L1 x7 x11) x19)).bind fun t313 => ((affidavitref01_Sub.f x0 (rd (rd_L1 x7 x17) x19) t313).bind fun t314 => (affidavitref04_Can.l5 k x0 x2 (x7.set (x17 : Int).toNat ((rd_L1 x7 x17).set (x19 : Int).toNat t314)) x11 x12 x15 x17 x18 (wrap64 (x19 + 1))))) else (none)) else (none)) else (none)) else (none)) else (none)) else (none)) else (none)) else (affidavitref04_Can.l4 k x0 x2 x7 x11 x12 x15 (wrap64 (x17 + 1)))
def affidavitref04_Can.l6 : Nat → Int → List (List Int) → Int → Option (Bool)
  | 0, _, _, _ => none
  | k + 1, x2, x7, x20 => if x20 < (x7.length : Int) then (if 0 ≤ x20 then (if 0 ≤ x2 then (if x2 < ((rd_L1 x7 x20).length : Int) then (if (rd (rd_L1 x7 x20) x2) = 0 then (affidavitref04_Can.l6 k x2 x7 (wrap64 (x20 + 1))) else (some false)) else (none)) else (none)) else (none)) else (some true)
end
def affidavitref04_Can.f (k : Nat) (a0 : Int) (l1 : List Int) (a2 : Int) : Option (Bool) := affidavitref04_Can.l0 k a0 l1 a2 ([] : List (List Int)) a2
theorem affidavitref04_Can.mono_l : ∀ k, (∀ y0 y1 y2 y3 y4, LeO (affidavitref04_Can.l0 k y0 y1 y2 y3 y4) (affidavitref04_Can.l0 (k + 1) y0 y1 y2 y3 y4)) ∧ (∀ y0 y1 y2 y3 y4 y5 y6, LeO (affidavitref04_Can.l1 k y0 y1 y2 y3 y4 y5 y6) (affidavitref04_Can.l1 (k + 1) y0 y1 y2 y3 y4 y5 y6)) ∧ (∀ y0 y1 y2 y3 y4, LeO (affidavitref04_Can.l2 k y0 y1 y2 y3 y4) (affidavitref04_Can.l2 (k + 1) y0 y1 y2 y3 y4)) ∧ (∀ y0 y1 y2 y3 y4 y5 y6, LeO (affidavitref04_Can.l3 k y0 y1 y2 y3 y4 y5 y6) (affidavitref04_Can.l3 (k + 1) y0 y1 y2 y3 y4 y5 y6)) ∧ (∀ y0 y1 y2 y3 y4 y5 y6, LeO (affidavitref04_Can.l4 k y0 y1 y2 y3 y4 y5 y6) (affidavitref04_Can.l4 (k + 1) y0 y1 y2 y3 y4 y5 y6)) ∧ (∀ y0 y1 y2 y3 y4 y5 y6 y7 y8, LeO (affidavitref04_Can.l5 k y0 y1 y2 y3 y4 y5 y6 y7 y8) (affidavitref04_Can.l5 (k + 1) y0 y1 y2 y3 y4 y5 y6 y7 y8)) ∧ (∀ y0 y1 y2, LeO (affidavitref04_Can.l6 k y0 y1 y2) (affidavitref04_Can.l6 (k + 1) y0 y1 y2))
  | 0 => ⟨fun _ _ _ _ _ r h => by simp [affidavitref04_Can.l0] at h, fun _ _ _ _ _ _ _ r h => by simp [affidavitref04_Can.l1] at h, fun _ _ _ _ _ r h => by simp [affidavitref04_Can.l2] at h, fun _ _ _ _ _ _ _ r h => by simp [affidavitref04_Can.l3] at h, fun _ _ _ _ _ _ _ r h => by simp [affidavitref04_Can.l4] at h, fun _ _ _ _ _ _ _ _ _ r h => by simp [affidavitref04_Can.l5] at h, fun _ _ _ r h => by simp [affidavitref04_Can.l6] at h⟩
  | k + 1 => by
    obtain ⟨ih0, ih1, ih2, ih3, ih4, ih5, ih6⟩ := affidavitref04_Can.mono_l k
    refine ⟨?_, ?_, ?_, ?_, ?_, ?_, ?_⟩
    · intro y0 y1 y2 y3 y4
      unfold affidavitref04_Can.l0
      repeat' first
      | (with_reducible exact ih0 _ _ _ _ _)
      | (with_reducible exact ih1 _ _ _ _ _ _ _)
      | (with_reducible exact ih2 _ _ _ _ _)
      | (with_reducible exact ih3 _ _ _ _ _ _ _)
      | (with_reducible exact ih4 _ _ _ _ _ _ _)
      | (with_reducible exact ih5 _ _ _ _ _ _ _ _ _)
      | (with_reducible exact ih6 _ _ _)
      | (with_reducible exact affidavitref01_Inv.mono _ _ _)
      | (with_reducible exact affidavitref01_Mul.mono _ _ _ _)
      | (with_reducible exact LeO.refl _)
      | (with_reducible exact LeO.none _)
      | (with_reducible refine LeO.ite ?_ ?_)
      | (with_reducible refine LeO.bind ?_ (fun _ => ?_))
      | exact ih0 _ _ _ _ _
      | exact ih1 _ _ _ _ _ _ _
      | exact ih2 _ _ _ _ _
      | exact ih3 _ _ _ _ _ _ _
      | exact ih4 _ _ _ _ _ _ _
      | exact ih5 _ _ _ _ _ _ _ _ _
      | exact ih6 _ _ _
      | exact affidavitref01_Inv.mono _ _ _
      | exact affidavitref01_Mul.mono _ _ _ _
      | exact LeO.none _
      | refine LeO.ite ?_ ?_
      | refine LeO.bind ?_ (fun _ => ?_)
    · intro y0 y1 y2 y3 y4 y5 y6
      unfold affidavitref04_Can.l1
      repeat' first
      | (with_reducible exact ih0 _ _ _ _ _)
      | (with_reducible exact ih1 _ _ _ _ _ _ _)
      | (with_reducible exact ih2 _ _ _ _ _)
      | (with_reducible exact ih3 _ _ _ _ _ _ _)
      | (with_reducible exact ih4 _ _ _ _ _ _ _)
      | (with_reducible exact ih5 _ _ _ _ _ _ _ _ _)
      | (with_reducible exact ih6 _ _ _)
      | (with_reducible exact affidavitref01_Inv.mono _ _ _)
      | (with_reducible exact affidavitref01_Mul.mono _ _ _ _)
      | (with_reducible exact LeO.refl _)
      | (with_reducible exact LeO.none _)
      | (with_reducible refine LeO.ite ?_ ?_)
      | (with_reducible refine LeO.bind ?_ (fun _ => ?_))
      | exact ih0 _ _ _ _ _
      | exact ih1 _ _ _ _ _ _ _
      | exact ih2 _ _ _ _ _
      | exact ih3 _ _ _ _ _ _ _
      | exact ih4 _ _ _ _ _ _ _
      | exact ih5 _ _ _ _ _ _ _ _ _
      | exact ih6 _ _ _
      | exact affidavitref01_Inv.mono _ _ _
      | exact affidavitref01_Mul.mono _ _ _ _
      | exact LeO.none _
      | refine LeO.ite ?_ ?_
      | refine LeO.bind ?_ (fun _ => ?_)
    · intro y0 y1 y2 y3 y4
      unfold affidavitref04_Can.l2
      repeat' first
      | (with_reducible exact ih0 _ _ _ _ _)
      | (with_reducible exact ih1 _ _ _ _ _ _ _)
      | (with_reducible exact ih2 _ _ _ _ _)
      | (with_reducible exact ih3 _ _ _ _ _ _ _)
      | (with_reducible exact ih4 _ _ _ _ _ _ _)
      | (with_reducible exact ih5 _ _ _ _ _ _ _ _ _)
      | (with_reducible exact ih6 _ _ _)
      | (with_reducible exact affidavitref01_Inv.mono _ _ _)
      | (with_reducible exact affidavitref01_Mul.mono _ _ _ _)
      | (with_reducible exact LeO.refl _)
      | (with_reducible exact LeO.none _)
      | (with_reducible refine LeO.ite ?_ ?_)
      | (with_reducible refine LeO.bind ?_ (fun _ => ?_))
      | exact ih0 _ _ _ _ _
      | exact ih1 _ _ _ _ _ _ _
      | exact ih2 _ _ _ _ _
      | exact ih3 _ _ _ _ _ _ _
      | exact ih4 _ _ _ _ _ _ _
      | exact ih5 _ _ _ _ _ _ _ _ _
      | exact ih6 _ _ _
      | exact affidavitref01_Inv.mono _ _ _
      | exact affidavitref01_Mul.mono _ _ _ _
      | exact LeO.none _
      | refine LeO.ite ?_ ?_
      | refine LeO.bind ?_ (fun _ => ?_)
    · intro y0 y1 y2 y3 y4 y5 y6
      unfold affidavitref04_Can.l3
      repeat' first
      | (with_reducible exact ih0 _ _ _ _ _)
      | (with_reducible exact ih1 _ _ _ _ _ _ _)
      | (with_reducible exact ih2 _ _ _ _ _)
      | (with_reducible exact ih3 _ _ _ _ _ _ _)
      | (with_reducible exact ih4 _ _ _ _ _ _ _)
      | (with_reducible exact ih5 _ _ _ _ _ _ _ _ _)
      | (with_reducible exact ih6 _ _ _)
      | (with_reducible exact affidavitref01_Inv.mono _ _ _)
      | (with_reducible exact affidavitref01_Mul.mono _ _ _ _)
      | (with_reducible exact LeO.refl _)
      | (with_reducible exact LeO.none _)
      | (with_reducible refine LeO.ite ?_ ?_)
      | (with_reducible refine LeO.bind ?_ (fun _ => ?_))
      | exact ih0 _ _ _ _ _
      | exact ih1 _ _ _ _ _ _ _
      | exact ih2 _ _ _ _ _
      | exact ih3 _ _ _ _ _ _ _
      | exact ih4 _ _ _ _ _ _ _
      | exact ih5 _ _ _ _ _ _ _ _ _
      | exact ih6 _ _ _
      | exact affidavitref01_Inv.mono _ _ _
      | exact affidavitref01_Mul.mono _ _ _ _
      | exact LeO.none _
      | refine LeO.ite ?_ ?_
      | refine LeO.bind ?_ (fun _ => ?_)
    · intro y0 y1 y2 y3 y4 y5 y6
      unfold affidavitref04_Can.l4
      repeat' first
      | (with_reducible exact ih0 _ _ _ _ _)
      | (with_reducible exact ih1 _ _ _ _ _ _ _)
      | (with_reducible exact ih2 _ _ _ _ _)
      | (with_reducible exact ih3 _ _ _ _ _ _ _)
      | (with_reducible exact ih4 _ _ _ _ _ _ _)
      | (with_reducible exact ih5 _ _ _ _ _ _ _ _ _)
      | (with_reducible exact ih6 _ _ _)
      | (with_reducible exact affidavitref01_Inv.mono _ _ _)
      | (with_reducible exact affidavitref01_Mul.mono _ _ _ _)
      | (with_reducible exact LeO.refl _)
      | (with_reducible exact LeO.none _)
      | (with_reducible refine LeO.ite ?_ ?_)
      | (with_reducible refine LeO.bind ?_ (fun _ => ?_))
      | exact ih0 _ _ _ _ _
      | exact ih1 _ _ _ _ _ _ _
      | exact ih2 _ _ _ _ _
      | exact ih3 _ _ _ _ _ _ _
      | exact ih4 _ _ _ _ _ _ _
      | exact ih5 _ _ _ _ _ _ _ _ _
      | exact ih6 _ _ _
      | exact affidavitref01_Inv.mono _ _ _
      | exact affidavitref01_Mul.mono _ _ _ _
      | exact LeO.none _
      | refine LeO.ite ?_ ?_
      | refine LeO.bind ?_ (fun _ => ?_)
    · intro y0 y1 y2 y3 y4 y5 y6 y7 y8
      unfold affidavitref04_Can.l5
      repeat' first
      | (with_reducible exact ih0 _ _ _ _ _)
      | (with_reducible exact ih1 _ _ _ _ _ _ _)
      | (with_reducible exact ih2 _ _ _ _ _)
      | (with_reducible exact ih3 _ _ _ _ _ _ _)
      | (with_reducible exact ih4 _ _ _ _ _ _ _)
      | (with_reducible exact ih5 _ _ _ _ _ _ _ _ _)
      | (with_reducible exact ih6 _ _ _)
      | (with_reducible exact affidavitref01_Inv.mono _ _ _)
      | (with_reducible exact affidavitref01_Mul.mono _ _ _ _)
      | (with_reducible exact LeO.refl _)
      | (with_reducible exact LeO.none _)
      | (with_reducible refine LeO.ite ?_ ?_)
      | (with_reducible refine LeO.bind ?_ (fun _ => ?_))
      | exact ih0 _ _ _ _ _
      | exact ih1 _ _ _ _ _ _ _
      | exact ih2 _ _ _ _ _
      | exact ih3 _ _ _ _ _ _ _
      | exact ih4 _ _ _ _ _ _ _
      | exact ih5 _ _ _ _ _ _ _ _ _
      | exact ih6 _ _ _
      | exact affidavitref01_Inv.mono _ _ _
      | exact affidavitref01_Mul.mono _ _ _ _
      | exact LeO.none _
      | refine LeO.ite ?_ ?_
      | refine LeO.bind ?_ (fun _ => ?_)
    · intro y0 y1 y2
      unfold affidavitref04_Can.l6
      repeat' first
      | (with_reducible exact ih0 _ _ _ _ _)
      | (with_reducible exact ih1 _ _ _ _ _ _ _)
      | (with_reducible exact ih2 _ _ _ _ _)
      | (with_reducible exact ih3 _ _ _ _ _ _ _)
      | (with_reducible exact ih4 _ _ _ _ _ _ _)
      | (with_reducible exact ih5 _ _ _ _ _ _ _ _ _)
      | (with_reducible exact ih6 _ _ _)
      | (with_reducible exact affidavitref01_Inv.mono _ _ _)
      | (with_reducible exact affidavitref01_Mul.mono _ _ _ _)
      | (with_reducible exact LeO.refl _)
      | (with_reducible exact LeO.none _)
      | (with_reducible refine LeO.ite ?_ ?_)
      | (with_reducible refine LeO.bind ?_ (fun _ => ?_))
      | exact ih0 _ _ _ _ _
      | exact ih1 _ _ _ _ _ _ _
      | exact ih2 _ _ _ _ _
      | exact ih3 _ _ _ _ _ _ _
      | exact ih4 _ _ _ _ _ _ _
      | exact ih5 _ _ _ _ _ _ _ _ _
      | exact ih6 _ _ _
      | exact affidavitref01_Inv.mono _ _ _
      | exact affidavitref01_Mul.mono _ _ _ _
      | exact LeO.none _
      | refine LeO.ite ?_ ?_
      | refine LeO.bind ?_ (fun _ => ?_)
theorem affidavitref04_Can.mono : ∀ a0 a1 a2 k, LeO (affidavitref04_Can.f k a0 a1 a2) (affidavitref04_Can.f (k + 1) a0 a1 a2) := by
  intro a0 a1 a2 k
  obtain ⟨ih0, ih1, ih2, ih3, ih4, ih5, ih6⟩ := affidavitref04_Can.mono_l k
  unfold affidavitref04_Can.f
  repeat' first
      | (with_reducible exact ih0 _ _ _ _ _)
      | (with_reducible exact ih1 _ _ _ _ _ _ _)
      | (with_reducible exact ih2 _ _ _ _ _)
      | (with_reducible exact ih3 _ _ _ _ _ _ _)
      | (with_reducible exact ih4 _ _ _ _ _ _ _)
      | (with_reducible exact ih5 _ _ _ _ _ _ _ _ _)
      | (with_reducible exact ih6 _ _ _)
      | (with_reducible exact affidavitref01_Inv.mono _ _ _)
      | (with_reducible exact affidavitref01_Mul.mono _ _ _ _)
      | (with_reducible exact LeO.refl _)
      | (with_reducible exact LeO.none _)
      | (with_reducible refine LeO.ite ?_ ?_)
      | (with_reducible refine LeO.bind ?_ (fun _ => ?_))
      | exact ih0 _ _ _ _ _
      | exact ih1 _ _ _ _ _ _ _
      | exact ih2 _ _ _ _ _
      | exact ih3 _ _ _ _ _ _ _
      | exact ih4 _ _ _ _ _ _ _
      | exact ih5 _ _ _ _ _ _ _ _ _
      | exact ih6 _ _ _
      | exact affidavitref01_Inv.mono _ _ _
      | exact affidavitref01_Mul.mono _ _ _ _
      | exact LeO.none _
      | refine LeO.ite ?_ ?_
      | refine LeO.bind ?_ (fun _ => ?_)
def affidavitref04_Can.T31 : Bool × List (List Nat × List Nat) := (true, [([], []), ([], []), ([0, 1], [0, 1]), ([2], [2]), ([], []), ([], []), ([], []), ([], []), ([6, 7], [6, 7]), ([8], [8]), ([], []), ([9, 10], [9, 10]), ([11], [11]), ([], []), ([], []), ([], []), ([], []), ([15, 16], [15, 16]), ([17], [17]), ([], []), ([18, 19], [18, 19]), ([20], [20]), ([13, 14, 21], [13, 14, 21]), ([5, 12, 22, 22], [5, 12, 22]), ([3, 4, 0, 1, 2, 3, 4, 5, 6, 7, 8, 9, 10, 11, 12, 13, 14, 15, 16, 17, 18, 19, 20, 21, 22, 23], [3, 4]), ([24, 23, 23, 0, 1, 2, 3, 4, 5, 6, 7, 8, 9, 10, 11, 12, 13, 14, 15, 16, 17, 18, 19, 20, 21, 22, 23], [23, 24])])
def affidavitref04_Can.B31 : List Nat := [0, 0, 3, 7, 0, 0, 0, 0, 192, 448, 0, 1984, 4032, 0, 0, 0, 0, 98304, 229376, 0, 1015808, 2064384, 4186112, 8388576, 16777215, 33554431]
theorem affidavitref04_Can.tab31 : rtab .any (opsOf Try.f53 31) = affidavitref04_Can.T31 := by kernel_rfl
theorem affidavitref04_Can.bits31 : waitsOk affidavitref04_Can.T31.2 affidavitref04_Can.B31 = true := by kernel_rfl
set_option maxHeartbeats 8000000 in
set_option maxRecDepth 100000 in
theorem affidavitref04_Can.calls (k : Nat) (a0 : Int) (A1 : Option Addr) (c1 : Nat) (l1 : List Int) (a2 : Int) (r : Bool) (w : World) (hr1 : Kd.C (Kd.int .u64) w A1 l1.length l1) (hc1 : l1.length ≤ c1) (h : affidavitref04_Can.f k a0 l1 a2 = some r) :
    Calls Try.prog 53 #[.int .u64 a0, .slice A1 l1.length c1, .int .i64 a2] w fun e w' => e = .returned (.bool r) ∧ Below w.heap.size w w' := by
  have HR1 := Aside0.mk hr1
  have HC1 := Aside0.mk hc1
  clear hr1 hc1
  have HB := Aside0.mk (Below.refl w.heap.size w)
  have H : (affidavitref04_Can.l0 k a0 l1 a2 ([] : List (List Int)) a2) = some r := h
  clear h
  have H' := Aside0.mk H
  clear H
  go_enter Try.func53, Try.ntmps53
  go_wp2
  go_loopg [7, 8] k (fun kq v7 v8 w' => ∃ (x7_1 : List (List Int)) (x8_1 : Int), v8 = .int .i64 x8_1 ∧ Aside0 (affidavitref04_Can.l0 kq a0 l1 a2 x7_1 x8_1 = some r) ∧ Aside0 (kq ≤ k) ∧ Aside0 (Kd.S (Kd.slice 22 (Kd.int .u64)) 23 w' w.heap.size (fun _ => True) v7 x7_1) ∧ Aside0 (Below w.heap.size w w'))
  case atStart => exact ⟨(([] : List (List Int))), (a2), (by first | rfl | (simp; done) | (simp [*]; done)), H', ⟨Nat.le_refl _⟩, ⟨by first | exact Kd.S_nil _ _ _ _ _ | exact Kd.N_nil _ _ _ _ _ | exact Kd.V_nil _ _ _ _ _ | exact Kd.Q_nil _ _ _ _ _ | exact Kd.R_nil _ _ _ _ _⟩, ⟨by repeat (first | (with_reducible first | exact HB.out | apply below_alloc | apply pw_below_drewN | apply below_drew1) | exact HB.out)⟩⟩
  case round =>
    clear H'
    try clear c1
    try clear p2
    obtain ⟨x7_1, x8_1, rfl, HA, HK1, HO_7, HB⟩ := hrel
    cases gk with
    | zero => exact absurd HA.out (by simp [affidavitref04_Can.l0])
    | succ k1 =>
      have H := HA.out
      clear HA
      simp only [affidavitref04_Can.l0] at H
      by_cases c4 : x8_1 < (l1.length : Int)
      · rw [if_pos c4] at H
        have c4b0 : decide (x8_1 < (l1.length : Int)) = true := decide_eq_true c4
        clear c4
        have H' := Aside0.mk H
        clear H
        go_wp2
        go_loopg [9, 10] k1 (fun kq v9 v10 w' => ∃ (x9_2 : List Int) (x10_2 : Int), v10 = .int .i64 x10_2 ∧ Aside0 (affidavitref04_Can.l1 kq a0 l1 a2 x7_1 x8_1 x9_2 x10_2 = some r) ∧ Aside0 (kq ≤ k1) ∧ Aside0 (Kd.S (Kd.slice 22 (Kd.int .u64)) 23 w' w.heap.size (fun k_ => some k_ ≠ (v9 : Value).ownBlock) u7 x7_1) ∧ Aside0 (Kd.R (Kd.int .u64) 22 w' w.heap.size (fun _ => True) v9 x9_2) ∧ Aside0 (Below w.heap.size w w'))
        case atStart => exact ⟨(([] : List Int)), (1), (by first | rfl | (simp; done) | (simp [*]; done)), H', ⟨Nat.le_refl _⟩, ⟨by (with_reducible repeat (first | apply Kd.S_alloc | apply Kd.S_drewN | apply Kd.S_drew)); exact Kd.S_mono HO_7.out (fun _ hk => (by simp [Value.ownBlock]))⟩, ⟨by first | exact Kd.R_nil _ _ _ _ _ | exact Kd.N_nil _ _ _ _ _ | exact Kd.V_nil _ _ _ _ _ | exact Kd.Q_nil _ _ _ _ _ | exact Kd.S_nil _ _ _ _ _⟩, ⟨by repeat (first | (with_reducible first | exact HB.out | apply below_alloc | apply pw_below_drewN | apply below_drew1) | exact HB.out)⟩⟩
        case round =>
          clear H'
          try clear c1
          try clear p2
          try clear c4
          try clear c4b0
          try clear p2
          obtain ⟨x9_2, x10_2, rfl, HA, HK2, HO_7, HO_9, HB⟩ := hrel
          cases gk with
          | zero => exact absurd HA.out (by simp [affidavitref04_Can.l1])
          | succ k2 =>
            have H := HA.out
            clear HA
            simp only [affidavitref04_Can.l1] at H
            by_cases c5 : x10_2 ≤ a2
            · rw [if_pos c5] at H
              have c5b0 : decide (x10_2 ≤ a2) = true := decide_eq_true c5
              clear c5
              obtain ⟨ji6, hji6⟩ : ∃ j_ : Int, (wrap64 (x8_1 - x10_2)) = j_ := ⟨_, rfl⟩
              replace H : (if 0 ≤ (ji6) then (if (ji6) < (l1.length : Int) then (if x9_2.length < 17592186044416 then (affidavitref04_Can.l1 k2 a0 l1 a2 x7_1 x8_1 (x9_2 ++ [rd l1 (ji6)]) (wrap64 (x10_2 + 1))) else (none)) else (none)) else (none)) = some r := by first | (rw [hji6] at H; exact H) | (simp only [hji6] at H ⊢; exact H)
              have hji6w : (IntKind.i64.wrap (x8_1 - x10_2)) = ji6 := (i64_w _).trans hji6
              by_cases c7 : 0 ≤ (ji6)
              · rw [if_pos c7] at H
                have c7b0 : decide (0 ≤ (ji6)) = true := decide_eq_true c7
                clear c7
                by_cases c8 : (ji6) < (l1.length : Int)
                · rw [if_pos c8] at H
                  have c8b0 : decide ((ji6) < (l1.length : Int)) = true := decide_eq_true c8
                  clear c8
                  by_cases c9 : x9_2.length < 17592186044416
                  · rw [if_pos c9] at H
                    have LMc9 := Aside0.mk c9
                    clear c9
                    obtain ⟨y288, hy288⟩ : ∃ y_ : List Int, y_ = (x9_2 ++ [rd l1 (ji6)]) := ⟨_, rfl⟩
                    replace H : (affidavitref04_Can.l1 k2 a0 l1 a2 x7_1 x8_1 y288 (wrap64 (x10_2 + 1))) = some r := by first | (rw [hy288]; with_reducible exact H) | (have H2_ := (Option.bind_some _ _).symm.trans H; rw [hy288]; with_reducible exact H2_) | (have H2_ := (Option.bind_some _ _).symm.trans H; with_reducible exact H2_) | with_reducible exact H | (rw [hy288]; exact H) | exact H
                    have Ny288 := Aside0.mk hy288
                    clear hy288
                    have H' := Aside0.mk H
                    clear H
                    have p287 : 0 ≤ ((ji6) : Int) := of_decide_eq_true (by first | (with_reducible assumption) | assumption)
                    have q287 : (ji6) < (l1.length : Int) := of_decide_eq_true (by first | (with_reducible assumption) | assumption)
                    obtain ⟨ad287, e287, hx287_0⟩ := Kd.at_int HR1.out (ji6) p287 q287
                    cases e287
                    replace hx287_0 := (HB.out.cell (World.block_lt_of_cell? w _ hx287_0)).trans hx287_0
                    replace p287 := eq_true p287
                    replace q287 := eq_true q287
                    go_wp2_with (first | ((with_reducible refine gate_builtin (b := .append) (xs := #[.tmp 33, .tmp 40]) rfl ?_); at_builtin; refine Kd.R_append (Kd.int .u64) (w0 := w) w.heap.size rfl (.tmp 33) (.tmp 40) 23 22 (.int .u64 0) 8 rfl Try.underlying23 info22 rfl (by decide) (by omega) u9 x9_2 (rd l1 (ji6)) [.int .u64 (rd l1 (ji6))] (fun _ => True) (fun _ => False) rfl rfl ?aP (fun _ hk => hk.elim) ?aF ?aO ?aB ?aS ?aL ?_; (case aP => exact rfl); (case aB => exact (by repeat (first | (with_reducible first | exact HB.out | apply below_alloc | apply pw_below_drewN | apply below_drew1) | exact HB.out))); (case aF => exact (fun _ _ => trivial)); (case aO => exact (by (with_reducible repeat (first | apply Kd.R_alloc | apply Kd.R_drewN | apply Kd.R_drew)); exact HO_9.out)); (case aS => exact (below_size (by repeat (first | (with_reducible first | exact HB.out | apply below_alloc | apply pw_below_drewN | apply below_drew1) | exact HB.out)))); (case aL => have := LMc9.out; omega); intro v289 w10 ho hb hg hat; rw [← Ny288.out] at ho; have n0_ := Aside0.mk (Kd.S_after (ok := (fun _ => True)) (by (with_reducible repeat (first | apply Kd.S_alloc | apply Kd.S_drewN | apply Kd.S_drew)); exact Kd.S_mono HO_7.out (fun _ hk => ⟨trivial, hk⟩)) hg hat); have n1_ := Aside0.mk (hb); have n2_ := Aside0.mk (ho); clear HO_7; clear HB; clear HO_9; have HO_7 := n0_; have HB := n1_; have HO290 := n2_; clear n0_ n1_ n2_; clear ho hb hg hat))
                    (first | go_roundg k2 | (refine Handed.intro k2 ?measure ?_; rotate_left; go_step; (repeat apply Exists.intro); refine ⟨?rel, ?fr_⟩; (case fr_ => (simp only [Addr.add_lit, Nat.zero_add]; rfl))))
                    case measure => have := HK1.out; have := HK2.out; omega
                    case rel => exact ⟨(y288), (wrap64 (x10_2 + 1)), (by first | rfl | (simp; done) | (simp [*]; done)), H', ⟨by have := HK1.out; have := HK2.out; omega⟩, ⟨by (with_reducible repeat (first | apply Kd.S_alloc | apply Kd.S_drewN | apply Kd.S_drew)); exact Kd.S_mono HO_7.out (fun _ hk => hk.2)⟩, ⟨by (with_reducible repeat (first | apply Kd.R_alloc | apply Kd.R_drewN | apply Kd.R_drew)); exact HO290.out⟩, ⟨by repeat (first | (with_reducible first | exact HB.out | apply below_alloc | apply pw_below_drewN | apply below_drew1) | exact HB.out)⟩⟩
                  · rw [if_neg c9] at H
                    exact absurd H (by simp)
                · rw [if_neg c8] at H
                  exact absurd H (by simp)
              · rw [if_neg c7] at H
                exact absurd H (by simp)
            · rw [if_neg c5] at H
              have c5b0 : decide (x10_2 ≤ a2) = false := decide_eq_false c5
              clear c5
              by_cases c11 : 0 ≤ x8_1
              · rw [if_pos c11] at H
                have c11b0 : decide (0 ≤ x8_1) = true := decide_eq_true c11
                clear c11
                by_cases c12 : x8_1 < (l1.length : Int)
                · rw [if_pos c12] at H
                  have c12b0 : decide (x8_1 < (l1.length : Int)) = true := decide_eq_true c12
                  clear c12
                  replace H := Option.bind_eq_some_iff.mp H
                  obtain ⟨t292, A130, H⟩ := H
                  replace H : (if x9_2.length < 17592186044416 then (if x7_1.length < 5864062014805 then (affidavitref04_Can.l0 k2 a0 l1 a2 (x7_1 ++ [(x9_2 ++ [t292])]) (wrap64 (x8_1 + 1))) else (none)) else (none)) = some r := H
                  have A13 := Aside0.mk A130
                  clear A130
                  by_cases c14 : x9_2.length < 17592186044416
                  · rw [if_pos c14] at H
                    have LMc14 := Aside0.mk c14
                    clear c14
                    obtain ⟨y293, hy293⟩ : ∃ y_ : List Int, y_ = (x9_2 ++ [t292]) := ⟨_, rfl⟩
                    replace H : (if x7_1.length < 5864062014805 then (affidavitref04_Can.l0 k2 a0 l1 a2 (x7_1 ++ [y293]) (wrap64 (x8_1 + 1))) else (none)) = some r := by first | (rw [hy293]; with_reducible exact H) | (have H2_ := (Option.bind_some _ _).symm.trans H; rw [hy293]; with_reducible exact H2_) | (have H2_ := (Option.bind_some _ _).symm.trans H; with_reducible exact H2_) | with_reducible exact H | (rw [hy293]; exact H) | exact H
                    have Ny293 := Aside0.mk hy293
                    clear hy293
                    by_cases c15 : x7_1.length < 5864062014805
                    · rw [if_pos c15] at H
                      have LMc15 := Aside0.mk c15
                      clear c15
                      obtain ⟨y296, hy296⟩ : ∃ y_ : List (List Int), y_ = (x7_1 ++ [y293]) := ⟨_, rfl⟩
                      replace H : (affidavitref04_Can.l0 k2 a0 l1 a2 y296 (wrap64 (x8_1 + 1))) = some r := by first | (rw [hy296]; with_reducible exact H) | (have H2_ := (Option.bind_some _ _).symm.trans H; rw [hy296]; with_reducible exact H2_) | (have H2_ := (Option.bind_some _ _).symm.trans H; with_reducible exact H2_) | with_reducible exact H | (rw [hy296]; exact H) | exact H
                      have Ny296 := Aside0.mk hy296
                      clear hy296
                      have H' := Aside0.mk H
                      clear H
                      have p291 : 0 ≤ (x8_1 : Int) := of_decide_eq_true (by first | (with_reducible assumption) | assumption)
                      have q291 : x8_1 < (l1.length : Int) := of_decide_eq_true (by first | (with_reducible assumption) | assumption)
                      obtain ⟨ad291, e291, hx291_0⟩ := Kd.at_int HR1.out x8_1 p291 q291
                      cases e291
                      replace hx291_0 := (HB.out.cell (World.block_lt_of_cell? w _ hx291_0)).trans hx291_0
                      replace p291 := eq_true p291
                      replace q291 := eq_true q291
                      go_wp2_with (first | ((with_reducible refine gate_callee (f := 73) rfl ?_); refine goesL_ (some 49) rfl rfl Try.func73 (by kernel_rfl) rfl #[.int .u64 a0, .int .u64 0, .int .u64 (rd l1 x8_1)] rfl (by (try simp only [List.map_toArray, List.map_cons, List.map_nil]); first | done | rfl | (simp only [List.length_drop, List.length_take]; rfl)) ?_; (with_reducible refine (affidavitref01_Sub.calls a0 0 (rd l1 x8_1) t292 _ A13.out).mono ?_); rintro e w' ⟨rfl, ⟨nd, rfl⟩⟩; refine ⟨_, rfl, ?_⟩) | ((with_reducible refine gate_builtin (b := .append) (xs := #[.tmp 43, .tmp 50]) rfl ?_); at_builtin; refine Kd.R_append (Kd.int .u64) (w0 := w) w.heap.size rfl (.tmp 43) (.tmp 50) 23 22 (.int .u64 0) 8 rfl Try.underlying23 info22 rfl (by decide) (by omega) u9 x9_2 t292 [.int .u64 t292] (fun _ => True) (fun _ => False) rfl rfl ?aP (fun _ hk => hk.elim) ?aF ?aO ?aB ?aS ?aL ?_; (case aP => exact rfl); (case aB => exact (by repeat (first | (with_reducible first | exact HB.out | apply below_alloc | apply pw_below_drewN | apply below_drew1) | exact HB.out))); (case aF => exact (fun _ _ => trivial)); (case aO => exact (by (with_reducible repeat (first | apply Kd.R_alloc | apply Kd.R_drewN | apply Kd.R_drew)); exact HO_9.out)); (case aS => exact (below_size (by repeat (first | (with_reducible first | exact HB.out | apply below_alloc | apply pw_below_drewN | apply below_drew1) | exact HB.out)))); (case aL => have := LMc14.out; omega); intro v294 w16 ho hb hg hat; rw [← Ny293.out] at ho; have n0_ := Aside0.mk (Kd.S_after (ok := (fun _ => True)) (by (with_reducible repeat (first | apply Kd.S_alloc | apply Kd.S_drewN | apply Kd.S_drew)); exact Kd.S_mono HO_7.out (fun _ hk => ⟨trivial, hk⟩)) hg hat); have n1_ := Aside0.mk (hb); have n2_ := Aside0.mk (ho); clear HO_7; clear HB; clear HO_9; have HO_7 := n0_; have HB := n1_; have HO295 := n2_; clear n0_ n1_ n2_; clear ho hb hg hat; obtain ⟨Ao18, co18, eo18⟩ := Kd.R_slice HO295.out; subst eo18) | ((with_reducible refine gate_builtin (b := .append) (xs := #[.tmp 42, .tmp 52]) rfl ?_); at_builtin; refine Kd.S_append (Kd.slice 22 (Kd.int .u64)) (w0 := w) w.heap.size rfl (.tmp 42) (.tmp 52) 69 23 (.slice none 0 0) 24 rfl Try.underlying69 info23 rfl (by decide) (by omega) u7 x7_1 y293 [.slice Ao18 y293.length co18] (fun _ => True) (fun k_ => some k_ = (.slice Ao18 y293.length co18 : Value).ownBlock) rfl rfl ?aP (fun k_ hk_ => ((Kd.R_mono (ok' := fun k_ => ((fun _ => True)) k_ ∧ some k_ ≠ (u7 : Value).ownBlock) (Kd.R_apart' (HO295.out) (Kd.S_typed HO_7.out) (by decide)) (fun k_ hk => ⟨trivial, hk.2⟩))).1 k_ hk_.symm) ?aF ?aO ?aB ?aS ?aL ?_; (case aP => exact Kd.M_row (Kd.R_mono (Kd.R_tight rfl (Kd.R_mono (ok' := fun k_ => ((fun _ => True)) k_ ∧ some k_ ≠ (u7 : Value).ownBlock) (Kd.R_apart' (HO295.out) (Kd.S_typed HO_7.out) (by decide)) (fun k_ hk => ⟨trivial, hk.2⟩))) (fun _ h_ => h_))); (case aB => exact (by repeat (first | (with_reducible first | exact HB.out | apply below_alloc | apply pw_below_drewN | apply below_drew1) | exact HB.out))); (case aF => exact (fun _ _ => trivial)); (case aO => exact (by (with_reducible repeat (first | apply Kd.S_alloc | apply Kd.S_drewN | apply Kd.S_drew)); exact Kd.S_mono HO_7.out (fun k_ hk => ⟨trivial, fun e_ => hk.2 e_⟩))); (case aS => exact (below_size (by repeat (first | (with_reducible first | exact HB.out | apply below_alloc | apply pw_below_drewN | apply below_drew1) | exact HB.out)))); (case aL => have := LMc15.out; omega); intro v297 w17 ho hb hg hat; rw [← Ny296.out] at ho; have n0_ := Aside0.mk (hb); have n1_ := Aside0.mk (ho); clear HB; clear HO_7; clear HO295; have HB := n0_; have HO298 := n1_; clear n0_ n1_; clear ho hb hg hat))
                      (first | go_roundg k2 | (refine Handed.intro k2 ?measure ?_; rotate_left; go_step; (repeat apply Exists.intro); refine ⟨?rel, ?fr_⟩; (case fr_ => (simp only [Addr.add_lit, Nat.zero_add]; rfl))))
                      case measure => have := HK1.out; have := HK2.out; omega
                      case rel => exact ⟨(y296), (wrap64 (x8_1 + 1)), (by first | rfl | (simp; done) | (simp [*]; done)), H', ⟨by have := HK1.out; have := HK2.out; omega⟩, ⟨by (with_reducible repeat (first | apply Kd.S_alloc | apply Kd.S_drewN | apply Kd.S_drew)); exact HO298.out⟩, ⟨by repeat (first | (with_reducible first | exact HB.out | apply below_alloc | apply pw_below_drewN | apply below_drew1) | exact HB.out)⟩⟩
                    · rw [if_neg c15] at H
                      exact absurd H (by simp)
                  · rw [if_neg c14] at H
                    exact absurd H (by simp)
                · rw [if_neg c12] at H
                  exact absurd H (by simp)
              · rw [if_neg c11] at H
                exact absurd H (by simp)
      · rw [if_neg c4] at H
        have c4b0 : decide (x8_1 < (l1.length : Int)) = false := decide_eq_false c4
        clear c4
        have H' := Aside0.mk H
        clear H
        go_wp2
        go_loopg [11, 12] k1 (fun kq v11 v12 w' => ∃ (x7_2 : List (List Int)) (x11_2 : Int) (x12_2 : Int), v11 = .int .i64 x11_2 ∧ v12 = .int .i64 x12_2 ∧ Aside0 (affidavitref04_Can.l2 kq a0 a2 x7_2 x11_2 x12_2 = some r) ∧ Aside0 (kq ≤ k1) ∧ Aside0 (Kd.S (Kd.slice 22 (Kd.int .u64)) 23 w' w.heap.size (fun _ => True) u7 x7_2) ∧ Aside0 (Below w.heap.size w w'))
        case atStart => exact ⟨(x7_1), (0), (0), (by first | rfl | (simp; done) | (simp [*]; done)), (by first | rfl | (simp; done) | (simp [*]; done)), H', ⟨Nat.le_refl _⟩, ⟨by (with_reducible repeat (first | apply Kd.S_alloc | apply Kd.S_drewN | apply Kd.S_drew)); exact HO_7.out⟩, ⟨by repeat (first | (with_reducible first | exact HB.out | apply below_alloc | apply pw_below_drewN | apply below_drew1) | exact HB.out)⟩⟩
        case round =>
          clear H'
          try clear c1
          try clear p2
          try clear q2
          try clear hx2
          try clear c4
          try clear c4b0
          try clear c5
          try clear c5b0
          try clear p6
          try clear c7
          try clear c7b0
          try clear c8
          try clear c8b0
          try clear c9
          try clear c11
          try clear c11b0
          try clear c12
          try clear c12b0
          try clear c14
          try clear c15
          try clear hx287_0
          try clear hx291_0
          try clear p2
          try clear p287
          try clear p291
          try clear q287
          try clear q291
          obtain ⟨x7_2, x11_2, x12_2, rfl, rfl, HA, HK2, HO_7, HB⟩ := hrel
          cases gk with
          | zero => exact absurd HA.out (by simp [affidavitref04_Can.l2])
          | succ k2 =>
            have H := HA.out
            clear HA
            simp only [affidavitref04_Can.l2] at H
            by_cases c19 : x12_2 < a2
            · rw [if_pos c19] at H
              have c19b0 : decide (x12_2 < a2) = true := decide_eq_true c19
              clear c19
              have H' := Aside0.mk H
              clear H
              go_wp2
              go_loopg [13, 14] k2 (fun kq v13 v14 w' => ∃ (x13_3 : Int) (x14_3 : Int), v13 = .int .i64 x13_3 ∧ v14 = .int .i64 x14_3 ∧ Aside0 (affidavitref04_Can.l3 kq a0 a2 x7_2 x11_2 x12_2 x13_3 x14_3 = some r) ∧ Aside0 (kq ≤ k2) ∧ Aside0 (Kd.S (Kd.slice 22 (Kd.int .u64)) 23 w' w.heap.size (fun _ => True) u7 x7_2) ∧ Aside0 (Below w.heap.size w w'))
              case atStart => exact ⟨((-1)), (x11_2), (by first | rfl | (simp; done) | (simp [*]; done)), (by first | rfl | (simp; done) | (simp [*]; done)), H', ⟨Nat.le_refl _⟩, ⟨by (with_reducible repeat (first | apply Kd.S_alloc | apply Kd.S_drewN | apply Kd.S_drew)); exact HO_7.out⟩, ⟨by repeat (first | (with_reducible first | exact HB.out | apply below_alloc | apply pw_below_drewN | apply below_drew1) | exact HB.out)⟩⟩
              case round =>
                clear H'
                try clear c1
                try clear p2
                try clear q2
                try clear hx2
                try clear c4
                try clear c4b0
                try clear c5
                try clear c5b0
                try clear p6
                try clear c7
                try clear c7b0
                try clear c8
                try clear c8b0
                try clear c9
                try clear c11
                try clear c11b0
                try clear c12
                try clear c12b0
                try clear c14
                try clear c15
                try clear c19
                try clear c19b0
                try clear hx287_0
                try clear hx291_0
                try clear p2
                try clear p287
                try clear p291
                try clear p6
                try clear q2
                try clear q287
                try clear q291
                obtain ⟨x13_3, x14_3, rfl, rfl, HA, HK3, HO_7, HB⟩ := hrel
                cases gk with
                | zero => exact absurd HA.out (by simp [affidavitref04_Can.l3])
                | succ k3 =>
                  have H := HA.out
                  clear HA
                  simp only [affidavitref04_Can.l3] at H
                  by_cases c20 : x14_3 < (x7_2.length : Int)
                  · rw [if_pos c20] at H
                    have c20b0 : decide (x14_3 < (x7_2.length : Int)) = true := decide_eq_true c20
                    clear c20
                    by_cases c21 : 0 ≤ x14_3
                    · rw [if_pos c21] at H
                      have c21b0 : decide (0 ≤ x14_3) = true := decide_eq_true c21
                      clear c21
                      by_cases c22 : 0 ≤ x12_2
                      · rw [if_pos c22] at H
                        have c22b0 : decide (0 ≤ x12_2) = true := decide_eq_true c22
                        clear c22
                        by_cases c23 : x12_2 < ((rd_L1 x7_2 x14_3).length : Int)
                        · rw [if_pos c23] at H
                          have c23b0 : decide (x12_2 < ((rd_L1 x7_2 x14_3).length : Int)) = true := decide_eq_true c23
                          clear c23
                          by_cases c24 : (rd (rd_L1 x7_2 x14_3) x12_2) = 0
                          · rw [if_pos c24] at H
                            have c24b0 : ((rd (rd_L1 x7_2 x14_3) x12_2) == 0) = true := beq_iff_eq.mpr c24
                            have c24b1 : ((rd (rd_L1 x7_2 x14_3) x12_2) != 0) = false := bne_eq_false_iff_eq.mpr c24
                            clear c24
                            have H' := Aside0.mk H
                            clear H
                            obtain ⟨Ao25, co25, eo25⟩ := Kd.S_slice HO_7.out
                            subst eo25
                            have p299 : 0 ≤ (x14_3 : Int) := of_decide_eq_true (by first | (with_reducible assumption) | assumption)
                            have q299 : x14_3 < (x7_2.length : Int) := of_decide_eq_true (by first | (with_reducible assumption) | assumption)
                            obtain ⟨ad299, A299_0, c299_0, e299, hx299_0, hl299_0, hi299_0⟩ := at_L1 (Kd.S_reads' HO_7.out).2.2 x14_3 p299 q299
                            cases e299
                            obtain ⟨ce299, hce299, hMe299, hcc299⟩ := Kd.S_get HO_7.out [] x14_3 p299 (by first | exact q299 | exact of_decide_eq_true (by first | (with_reducible assumption) | assumption) | (have e_ := (Kd.S_reads' HO_7.out).1; omega))
                            obtain ⟨ve299_0, rfl, ge299_0⟩ := hMe299
                            have hv299_0 := hcc299 0 _ rfl
                            rw [Nat.add_zero, show ((Kd.slice 22 (Kd.int .u64))).sz = 1 from rfl, Nat.mul_one] at hv299_0
                            replace hv299_0 := Option.some.inj (hv299_0.symm.trans hx299_0)
                            rw [hv299_0] at ge299_0
                            have HL299_0 := Aside0.mk (show Kd.R (Kd.int .u64) 22 _ _ _ _ (rd_L1 x7_2 x14_3) from ge299_0)
                            clear hv299_0 ge299_0
                            have HX299_0 := Aside0.mk hx299_0
                            clear hcc299 hce299
                            have HR299_0 := Aside0.mk hi299_0
                            have HC299_0 := Aside0.mk hl299_0
                            clear hi299_0 hl299_0
                            replace p299 := eq_true p299
                            replace q299 := eq_true q299
                            have p300 : 0 ≤ (x12_2 : Int) := of_decide_eq_true (by first | (with_reducible assumption) | assumption)
                            have q300 : x12_2 < ((rd_L1 x7_2 x14_3).length : Int) := of_decide_eq_true (by first | (with_reducible assumption) | assumption)
                            obtain ⟨ad300, e300, hx300_0⟩ := Kd.at_int (by repeat (first | (with_reducible exact HR299_0.out) | (with_reducible refine Kd.C_alloc ?_ _) | (with_reducible refine Kd.C_drewN ?_ _) | (with_reducible refine Kd.C_drew ?_) | exact HR299_0.out)) x12_2 p300 q300
                            cases e300
                            replace p300 := eq_true p300
                            replace q300 := eq_true q300
                            go_wp2
                            (first | go_roundg k3 | (refine Handed.intro k3 ?measure ?_; rotate_left; go_step; (repeat apply Exists.intro); refine ⟨?rel, ?fr_⟩; (case fr_ => (simp only [Addr.add_lit, Nat.zero_add]; rfl))))
                            case measure => have := HK1.out; have := HK2.out; have := HK3.out; omega
                            case rel => exact ⟨(x13_3), (wrap64 (x14_3 + 1)), (by first | rfl | (simp; done) | (simp [*]; done)), (by first | rfl | (simp; done) | (simp [*]; done)), H', ⟨by have := HK1.out; have := HK2.out; have := HK3.out; omega⟩, ⟨by (with_reducible repeat (first | apply Kd.S_alloc | apply Kd.S_drewN | apply Kd.S_drew)); exact HO_7.out⟩, ⟨by repeat (first | (with_reducible first | exact HB.out | apply below_alloc | apply pw_below_drewN | apply below_drew1) | exact HB.out)⟩⟩
                          · rw [if_neg c24] at H
                            have c24b0 : ((rd (rd_L1 x7_2 x14_3) x12_2) == 0) = false := beq_eq_false_iff_ne.mpr c24
                            have c24b1 : ((rd (rd_L1 x7_2 x14_3) x12_2) != 0) = true := bne_iff_ne.mpr c24
                            by_cases c26 : x13_3 < 0
                            · rw [if_pos c26] at H
                              have c26b0 : decide (x13_3 < 0) = true := decide_eq_true c26
                              clear c26
                              have H' := Aside0.mk H
                              clear H
                              obtain ⟨Ao27, co27, eo27⟩ := Kd.S_slice HO_7.out
                              subst eo27
                              have p299 : 0 ≤ (x14_3 : Int) := of_decide_eq_true (by first | (with_reducible assumption) | assumption)
                              have q299 : x14_3 < (x7_2.length : Int) := of_decide_eq_true (by first | (with_reducible assumption) | assumption)
                              obtain ⟨ad299, A299_0, c299_0, e299, hx299_0, hl299_0, hi299_0⟩ := at_L1 (Kd.S_reads' HO_7.out).2.2 x14_3 p299 q299
                              cases e299
                              obtain ⟨ce299, hce299, hMe299, hcc299⟩ := Kd.S_get HO_7.out [] x14_3 p299 (by first | exact q299 | exact of_decide_eq_true (by first | (with_reducible assumption) | assumption) | (have e_ := (Kd.S_reads' HO_7.out).1; omega))
                              obtain ⟨ve299_0, rfl, ge299_0⟩ := hMe299
                              have hv299_0 := hcc299 0 _ rfl
                              rw [Nat.add_zero, show ((Kd.slice 22 (Kd.int .u64))).sz = 1 from rfl, Nat.mul_one] at hv299_0
                              replace hv299_0 := Option.some.inj (hv299_0.symm.trans hx299_0)
                              rw [hv299_0] at ge299_0
                              have HL299_0 := Aside0.mk (show Kd.R (Kd.int .u64) 22 _ _ _ _ (rd_L1 x7_2 x14_3) from ge299_0)
                              clear hv299_0 ge299_0
                              have HX299_0 := Aside0.mk hx299_0
                              clear hcc299 hce299
                              have HR299_0 := Aside0.mk hi299_0
                              have HC299_0 := Aside0.mk hl299_0
                              clear hi299_0 hl299_0
                              replace p299 := eq_true p299
                              replace q299 := eq_true q299
                              have p300 : 0 ≤ (x12_2 : Int) := of_decide_eq_true (by first | (with_reducible assumption) | assumption)
                              have q300 : x12_2 < ((rd_L1 x7_2 x14_3).length : Int) := of_decide_eq_true (by first | (with_reducible assumption) | assumption)
                              obtain ⟨ad300, e300, hx300_0⟩ := Kd.at_int (by repeat (first | (with_reducible exact HR299_0.out) | (with_reducible refine Kd.C_alloc ?_ _) | (with_reducible refine Kd.C_drewN ?_ _) | (with_reducible refine Kd.C_drew ?_) | exact HR299_0.out)) x12_2 p300 q300
                              cases e300
                              replace p300 := eq_true p300
                              replace q300 := eq_true q300
                              go_wp2
                              (first | go_roundg k3 | (refine Handed.intro k3 ?measure ?_; rotate_left; go_step; (repeat apply Exists.intro); refine ⟨?rel, ?fr_⟩; (case fr_ => (simp only [Addr.add_lit, Nat.zero_add]; rfl))))
                              case measure => have := HK1.out; have := HK2.out; have := HK3.out; omega
                              case rel => exact ⟨(x14_3), (wrap64 (x14_3 + 1)), (by first | rfl | (simp; done) | (simp [*]; done)), (by first | rfl | (simp; done) | (simp [*]; done)), H', ⟨by have := HK1.out; have := HK2.out; have := HK3.out; omega⟩, ⟨by (with_reducible repeat (first | apply Kd.S_alloc | apply Kd.S_drewN | apply Kd.S_drew)); exact HO_7.out⟩, ⟨by repeat (first | (with_reducible first | exact HB.out | apply below_alloc | apply pw_below_drewN | apply below_drew1) | exact HB.out)⟩⟩
                            · rw [if_neg c26] at H
                              have c26b0 : decide (x13_3 < 0) = false := decide_eq_false c26
                              clear c26
                              have H' := Aside0.mk H
                              clear H
                              obtain ⟨Ao28, co28, eo28⟩ := Kd.S_slice HO_7.out
                              subst eo28
                              have p299 : 0 ≤ (x14_3 : Int) := of_decide_eq_true (by first | (with_reducible assumption) | assumption)
                              have q299 : x14_3 < (x7_2.length : Int) := of_decide_eq_true (by first | (with_reducible assumption) | assumption)
                              obtain ⟨ad299, A299_0, c299_0, e299, hx299_0, hl299_0, hi299_0⟩ := at_L1 (Kd.S_reads' HO_7.out).2.2 x14_3 p299 q299
                              cases e299
                              obtain ⟨ce299, hce299, hMe299, hcc299⟩ := Kd.S_get HO_7.out [] x14_3 p299 (by first | exact q299 | exact of_decide_eq_true (by first | (with_reducible assumption) | assumption) | (have e_ := (Kd.S_reads' HO_7.out).1; omega))
                              obtain ⟨ve299_0, rfl, ge299_0⟩ := hMe299
                              have hv299_0 := hcc299 0 _ rfl
                              rw [Nat.add_zero, show ((Kd.slice 22 (Kd.int .u64))).sz = 1 from rfl, Nat.mul_one] at hv299_0
                              replace hv299_0 := Option.some.inj (hv299_0.symm.trans hx299_0)
                              rw [hv299_0] at ge299_0
                              have HL299_0 := Aside0.mk (show Kd.R (Kd.int .u64) 22 _ _ _ _ (rd_L1 x7_2 x14_3) from ge299_0)
                              clear hv299_0 ge299_0
                              have HX299_0 := Aside0.mk hx299_0
                              clear hcc299 hce299
                              have HR299_0 := Aside0.mk hi299_0
                              have HC299_0 := Aside0.mk hl299_0
                              clear hi299_0 hl299_0
                              replace p299 := eq_true p299
                              replace q299 := eq_true q299
                              have p300 : 0 ≤ (x12_2 : Int) := of_decide_eq_true (by first | (with_reducible assumption) | assumption)
                              have q300 : x12_2 < ((rd_L1 x7_2 x14_3).length : Int) := of_decide_eq_true (by first | (with_reducible assumption) | assumption)
                              obtain ⟨ad300, e300, hx300_0⟩ := Kd.at_int (by repeat (first | (with_reducible exact HR299_0.out) | (with_reducible refine Kd.C_alloc ?_ _) | (with_reducible refine Kd.C_drewN ?_ _) | (with_reducible refine Kd.C_drew ?_) | exact HR299_0.out)) x12_2 p300 q300
                              cases e300
                              replace p300 := eq_true p300
                              replace q300 := eq_true q300
                              go_wp2
                              (first | go_roundg k3 | (refine Handed.intro k3 ?measure ?_; rotate_left; go_step; (repeat apply Exists.intro); refine ⟨?rel, ?fr_⟩; (case fr_ => (simp only [Addr.add_lit, Nat.zero_add]; rfl))))
                              case measure => have := HK1.out; have := HK2.out; have := HK3.out; omega
                              case rel => exact ⟨(x13_3), (wrap64 (x14_3 + 1)), (by first | rfl | (simp; done) | (simp [*]; done)), (by first | rfl | (simp; done) | (simp [*]; done)), H', ⟨by have := HK1.out; have := HK2.out; have := HK3.out; omega⟩, ⟨by (with_reducible repeat (first | apply Kd.S_alloc | apply Kd.S_drewN | apply Kd.S_drew)); exact HO_7.out⟩, ⟨by repeat (first | (with_reducible first | exact HB.out | apply below_alloc | apply pw_below_drewN | apply below_drew1) | exact HB.out)⟩⟩
                        · rw [if_neg c23] at H
                          exact absurd H (by simp)
                      · rw [if_neg c22] at H
                        exact absurd H (by simp)
                    · rw [if_neg c21] at H
                      exact absurd H (by simp)
                  · rw [if_neg c20] at H
                    have c20b0 : decide (x14_3 < (x7_2.length : Int)) = false := decide_eq_false c20
                    clear c20
                    by_cases c29 : x13_3 < 0
                    · rw [if_pos c29] at H
                      have c29b0 : decide (x13_3 < 0) = true := decide_eq_true c29
                      clear c29
                      have H' := Aside0.mk H
                      clear H
                      obtain ⟨Ao30, co30, eo30⟩ := Kd.S_slice HO_7.out
                      subst eo30
                      go_wp2
                      (first | go_roundg k3 | (refine Handed.intro k3 ?measure ?_; rotate_left; go_step; (repeat apply Exists.intro); refine ⟨?rel, ?fr_⟩; (case fr_ => (simp only [Addr.add_lit, Nat.zero_add]; rfl))))
                      case measure => have := HK1.out; have := HK2.out; have := HK3.out; omega
                      case rel => exact ⟨(x7_2), (x11_2), (wrap64 (x12_2 + 1)), (by first | rfl | (simp; done) | (simp [*]; done)), (by first | rfl | (simp; done) | (simp [*]; done)), H', ⟨by have := HK1.out; have := HK2.out; have := HK3.out; omega⟩, ⟨by (with_reducible repeat (first | apply Kd.S_alloc | apply Kd.S_drewN | apply Kd.S_drew)); exact HO_7.out⟩, ⟨by repeat (first | (with_reducible first | exact HB.out | apply below_alloc | apply pw_below_drewN | apply below_drew1) | exact HB.out)⟩⟩
                    · rw [if_neg c29] at H
                      have c29b0 : decide (x13_3 < 0) = false := decide_eq_false c29
                      clear c29
                      by_cases s1 : 0 ≤ x11_2 ∧ x11_2 < (x7_2.length : Int) ∧ 0 ≤ x13_3 ∧ x13_3 < (x7_2.length : Int)
                      · rw [if_pos s1] at H
                        obtain ⟨x7_s, hs_, H⟩ := Option.bind_eq_some_iff.mp H
                        have hsw_eq : swp x7_2 x11_2.toNat x13_3.toNat = x7_s := Option.some.inj hs_
                        clear hs_
                        obtain ⟨s11, s12, s13, s14⟩ := s1
                        by_cases c31 : 0 ≤ x11_2
                        · rw [if_pos c31] at H
                          have c31b0 : decide (0 ≤ x11_2) = true := decide_eq_true c31
                          clear c31
                          by_cases c32 : x11_2 < (x7_s.length : Int)
                          · rw [if_pos c32] at H
                            have c32b0 : decide (x11_2 < (x7_s.length : Int)) = true := decide_eq_true c32
                            clear c32
                            by_cases c33 : 0 ≤ x12_2
                            · rw [if_pos c33] at H
                              have c33b0 : decide (0 ≤ x12_2) = true := decide_eq_true c33
                              clear c33
                              by_cases c34 : x12_2 < ((rd_L1 x7_s x11_2).length : Int)
                              · rw [if_pos c34] at H
                                have c34b0 : decide (x12_2 < ((rd_L1 x7_s x11_2).length : Int)) = true := decide_eq_true c34
                                clear c34
                                replace H := Option.bind_eq_some_iff.mp H
                                obtain ⟨⟨t303, t304⟩, A350, H⟩ := H
                                replace H : (affidavitref04_Can.l4 k3 a0 a2 x7_s x11_2 x12_2 t303 (wrap64 (x11_2 + 1))) = some r := H
                                have A35 := Aside0.mk A350
                                clear A350
                                have H' := Aside0.mk H
                                clear H
                                obtain ⟨gS, co36, eo36, _, _, _⟩ := Kd.S_form HO_7.out (by omega)
                                subst eo36
                                obtain ⟨iN, hiN⟩ : ∃ m : Nat, x11_2 = (m : Int) := ⟨x11_2.toNat, by omega⟩
                                obtain ⟨jN, hjN⟩ : ∃ m : Nat, x13_3 = (m : Int) := ⟨x13_3.toNat, by omega⟩
                                have bI : iN < x7_2.length := by omega
                                have bJ : jN < x7_2.length := by omega
                                obtain ⟨Ai, ci, hci⟩ := cell_row HO_7.out bI
                                obtain ⟨Aj, cj, hcj⟩ := cell_row HO_7.out bJ
                                have hfr := frozen_row HO_7.out
                                have hsw := S_swap HO_7.out bI bJ hci hcj
                                have hlen : Aside0 (x7_2.length = x7_s.length) := ⟨by rw [← hsw_eq]; exact (swp_length _ _ _).symm⟩
                                have HSWN : Aside0 (swp x7_2 iN jN = x7_s) := ⟨by rw [← hsw_eq, hiN, hjN, Int.toNat_natCast, Int.toNat_natCast]⟩
                                clear hsw_eq
                                have HB0 := HB
                                try go_wp2
                                refine cn_swap _ wr gS iN jN _ co36 Ai Aj _ _ ci cj x11_2 x13_3 hiN hjN bI bJ hci hcj hfr ?_
                                intro w37 hw37
                                have n0_ := Aside0.mk (Kd.S_drew HO_7.out)
                                have n1_ := Aside0.mk (below_drew1 HB.out)
                                have n2_ := S_swap n0_.out bI bJ (W := wr.drew) hci hcj
                                rw [← hw37, show swp x7_2 iN jN = x7_s from HSWN.out] at n2_
                                have n3_ := Aside0.mk (below_grown_own n1_.out n0_.out n2_.2)
                                have n4_ := Aside0.mk n2_.1
                                clear HO_7 HB HB0 hsw n0_ n1_ n2_ hci hcj hfr hw37 hiN hjN bI bJ
                                rw [hlen.out] at n4_ ⊢
                                generalize hgS : (⟨gS, 0, none⟩ : Addr) = adS at n4_ ⊢
                                have HAD := Aside0.mk hgS.symm
                                clear hgS
                                have HO_7 := n4_
                                have HB := n3_
                                clear n3_ n4_
                                have p301 : 0 ≤ (x11_2 : Int) := of_decide_eq_true (by first | (with_reducible assumption) | assumption)
                                have q301 : x11_2 < (x7_s.length : Int) := of_decide_eq_true (by first | (with_reducible assumption) | assumption)
                                obtain ⟨ad301, A301_0, c301_0, e301, hx301_0, hl301_0, hi301_0⟩ := at_L1 (Kd.S_reads' HO_7.out).2.2 x11_2 p301 q301
                                cases e301
                                obtain ⟨ce301, hce301, hMe301, hcc301⟩ := Kd.S_get HO_7.out [] x11_2 p301 (by first | exact q301 | exact of_decide_eq_true (by first | (with_reducible assumption) | assumption) | (have e_ := (Kd.S_reads' HO_7.out).1; omega))
                                obtain ⟨ve301_0, rfl, ge301_0⟩ := hMe301
                                have hv301_0 := hcc301 0 _ rfl
                                rw [Nat.add_zero, show ((Kd.slice 22 (Kd.int .u64))).sz = 1 from rfl, Nat.mul_one] at hv301_0
                                replace hv301_0 := Option.some.inj (hv301_0.symm.trans hx301_0)
                                rw [hv301_0] at ge301_0
                                have HL301_0 := Aside0.mk (show Kd.R (Kd.int .u64) 22 _ _ _ _ (rd_L1 x7_s x11_2) from ge301_0)
                                clear hv301_0 ge301_0
                                have HX301_0 := Aside0.mk hx301_0
                                clear hcc301 hce301
                                have HR301_0 := Aside0.mk hi301_0
                                have HC301_0 := Aside0.mk hl301_0
                                clear hi301_0 hl301_0
                                replace p301 := eq_true p301
                                replace q301 := eq_true q301
                                have p302 : 0 ≤ (x12_2 : Int) := of_decide_eq_true (by first | (with_reducible assumption) | assumption)
                                have q302 : x12_2 < ((rd_L1 x7_s x11_2).length : Int) := of_decide_eq_true (by first | (with_reducible assumption) | assumption)
                                obtain ⟨ad302, e302, hx302_0⟩ := Kd.at_int (by repeat (first | (with_reducible exact HR301_0.out) | (with_reducible refine Kd.C_alloc ?_ _) | (with_reducible refine Kd.C_drewN ?_ _) | (with_reducible refine Kd.C_drew ?_) | exact HR301_0.out)) x12_2 p302 q302
                                cases e302
                                replace p302 := eq_true p302
                                replace q302 := eq_true q302
                                try go_wp2_with (first | ((with_reducible refine gate_callee (f := 74) rfl ?_); refine goesL_ (some 104) rfl rfl Try.func74 (by kernel_rfl) rfl #[.int .u64 a0, .int .u64 (rd (rd_L1 x7_s x11_2) x12_2)] rfl (by (try simp only [List.map_toArray, List.map_cons, List.map_nil]); first | done | rfl | (simp only [List.length_drop, List.length_take]; rfl)) ?_; (with_reducible refine (affidavitref01_Inv.calls k3 a0 (rd (rd_L1 x7_s x11_2) x12_2) t303 t304 _ A35.out).mono ?_); rintro e w' ⟨rfl, ⟨nd, rfl⟩⟩; refine ⟨_, rfl, ?_⟩))
                                go_loopg [17] k3 (fun kq v17 w' => ∃ (x7_4 : List (List Int)) (x17_4 : Int), v17 = .int .i64 x17_4 ∧ Aside0 (affidavitref04_Can.l4 kq a0 a2 x7_4 x11_2 x12_2 t303 x17_4 = some r) ∧ Aside0 (kq ≤ k3) ∧ Aside0 (Kd.S (Kd.slice 22 (Kd.int .u64)) 23 w' w.heap.size (fun _ => True) (.slice (some adS) x7_s.length co36) x7_4) ∧ Aside0 (Below w.heap.size w w'))
                                case atStart => exact ⟨(x7_s), (wrap64 (x11_2 + 1)), (by first | rfl | (simp; done) | (simp [*]; done)), H', ⟨Nat.le_refl _⟩, ⟨by (with_reducible repeat (first | apply Kd.S_alloc | apply Kd.S_drewN | apply Kd.S_drew)); exact HO_7.out⟩, ⟨by repeat (first | (with_reducible first | exact HB.out | apply below_alloc | apply pw_below_drewN | apply below_drew1) | exact HB.out)⟩⟩
                                case round =>
                                  clear H'
                                  try clear c1
                                  try clear c2
                                  try clear p2
                                  try clear q2
                                  try clear hx2
                                  try clear c3
                                  try clear p3
                                  try clear q3
                                  try clear hx3
                                  try clear c4
                                  try clear c4b0
                                  try clear c5
                                  try clear c5b0
                                  try clear p6
                                  try clear c7
                                  try clear c7b0
                                  try clear c8
                                  try clear c8b0
                                  try clear c9
                                  try clear c11
                                  try clear c11b0
                                  try clear c12
                                  try clear c12b0
                                  try clear c14
                                  try clear c15
                                  try clear c19
                                  try clear c19b0
                                  try clear c20
                                  try clear c20b0
                                  try clear c21
                                  try clear c21b0
                                  try clear c22
                                  try clear c22b0
                                  try clear c23
                                  try clear c23b0
                                  try clear c24
                                  try clear c24b0
                                  try clear c24b1
                                  try clear c26
                                  try clear c26b0
                                  try clear p28
                                  try clear q28
                                  try clear hx28
                                  try clear c29
                                  try clear c29b0
                                  try clear p29
                                  try clear q29
                                  try clear hx29
                                  try clear c30
                                  try clear p30
                                  try clear q30
                                  try clear hx30
                                  try clear c31
                                  try clear c31b0
                                  try clear c32
                                  try clear c32b0
                                  try clear c33
                                  try clear c33b0
                                  try clear c34
                                  try clear c34b0
                                  try clear hx287_0
                                  try clear hx291_0
                                  try clear hx299_0
                                  try clear hx300_0
                                  try clear hx301_0
                                  try clear hx302_0
                                  try clear p2
                                  try clear p287
                                  try clear p291
                                  try clear p299
                                  try clear p300
                                  try clear p301
                                  try clear p302
                                  try clear p6
                                  try clear q2
                                  try clear q287
                                  try clear q291
                                  try clear q299
                                  try clear q300
                                  try clear q301
                                  try clear q302
                                  obtain ⟨x7_4, x17_4, rfl, HA, HK4, HO_7, HB⟩ := hrel
                                  have hl7_4 := (Kd.S_reads' HO_7.out).1
                                  rw [hl7_4] at HO_7
                                  (try simp only [hl7_4])
                                  cases gk with
                                  | zero => exact absurd HA.out (by simp [affidavitref04_Can.l4])
                                  | succ k4 =>
                                    have H := HA.out
                                    clear HA
                                    simp only [affidavitref04_Can.l4] at H
                                    by_cases c38 : x17_4 < (x7_4.length : Int)
                                    · rw [if_pos c38] at H
                                      have c38b0 : decide (x17_4 < (x7_4.length : Int)) = true := decide_eq_true c38
                                      have c38b0z := c38b0; (try simp only [hl7_4] at c38b0z)
                                      clear c38
                                      by_cases c39 : 0 ≤ x17_4
                                      · rw [if_pos c39] at H
                                        have c39b0 : decide (0 ≤ x17_4) = true := decide_eq_true c39
                                        clear c39
                                        by_cases c40 : 0 ≤ x12_2
                                        · rw [if_pos c40] at H
                                          have c40b0 : decide (0 ≤ x12_2) = true := decide_eq_true c40
                                          clear c40
                                          by_cases c41 : x12_2 < ((rd_L1 x7_4 x17_4).length : Int)
                                          · rw [if_pos c41] at H
                                            have c41b0 : decide (x12_2 < ((rd_L1 x7_4 x17_4).length : Int)) = true := decide_eq_true c41
                                            have c41b0z := c41b0; (try simp only [hl7_4] at c41b0z)
                                            clear c41
                                            replace H := Option.bind_eq_some_iff.mp H
                                            obtain ⟨t307, A420, H⟩ := H
                                            replace H : (affidavitref04_Can.l5 k4 a0 a2 x7_4 x11_2 x12_2 t303 x17_4 t307 x12_2) = some r := H
                                            have A42 := Aside0.mk A420
                                            clear A420
                                            have H' := Aside0.mk H
                                            clear H
                                            have p305 : 0 ≤ (x17_4 : Int) := of_decide_eq_true (by first | (with_reducible assumption) | assumption)
                                            have q305 : x17_4 < (x7_4.length : Int) := of_decide_eq_true (by first | (with_reducible assumption) | assumption)
                                            obtain ⟨ad305, A305_0, c305_0, e305, hx305_0, hl305_0, hi305_0⟩ := at_L1 (Kd.S_reads' HO_7.out).2.2 x17_4 p305 q305
                                            obtain rfl : adS = ad305 := (by injection e305)
                                            obtain ⟨ce305, hce305, hMe305, hcc305⟩ := Kd.S_get HO_7.out [] x17_4 p305 (by first | exact q305 | exact of_decide_eq_true (by first | (with_reducible assumption) | assumption) | (have e_ := (Kd.S_reads' HO_7.out).1; omega))
                                            obtain ⟨ve305_0, rfl, ge305_0⟩ := hMe305
                                            have hv305_0 := hcc305 0 _ rfl
                                            rw [Nat.add_zero, show ((Kd.slice 22 (Kd.int .u64))).sz = 1 from rfl, Nat.mul_one] at hv305_0
                                            replace hv305_0 := Option.some.inj (hv305_0.symm.trans hx305_0)
                                            rw [hv305_0] at ge305_0
                                            have HL305_0 := Aside0.mk (show Kd.R (Kd.int .u64) 22 _ _ _ _ (rd_L1 x7_4 x17_4) from ge305_0)
                                            clear hv305_0 ge305_0
                                            have HX305_0 := Aside0.mk hx305_0
                                            clear hcc305 hce305
                                            have HR305_0 := Aside0.mk hi305_0
                                            have HC305_0 := Aside0.mk hl305_0
                                            clear hi305_0 hl305_0
                                            replace p305 := eq_true p305
                                            replace q305 := eq_true q305
                                            have p306 : 0 ≤ (x12_2 : Int) := of_decide_eq_true (by first | (with_reducible assumption) | assumption)
                                            have q306 : x12_2 < ((rd_L1 x7_4 x17_4).length : Int) := of_decide_eq_true (by first | (with_reducible assumption) | assumption)
                                            obtain ⟨ad306, e306, hx306_0⟩ := Kd.at_int (by repeat (first | (with_reducible exact HR305_0.out) | (with_reducible refine Kd.C_alloc ?_ _) | (with_reducible refine Kd.C_drewN ?_ _) | (with_reducible refine Kd.C_drew ?_) | exact HR305_0.out)) x12_2 p306 q306
                                            cases e306
                                            replace p306 := eq_true p306
                                            replace q306 := eq_true q306
                                            go_wp2_with (first | ((with_reducible refine gate_callee (f := 50) rfl ?_); refine goesL_ (some 124) rfl rfl Try.func50 (by kernel_rfl) rfl #[.int .u64 a0, .int .u64 (rd (rd_L1 x7_4 x17_4) x12_2), .int .u64 t303] rfl (by (try simp only [List.map_toArray, List.map_cons, List.map_nil]); first | done | rfl | (simp only [List.length_drop, List.length_take]; rfl)) ?_; (with_reducible refine (affidavitref01_Mul.calls k4 a0 (rd (rd_L1 x7_4 x17_4) x12_2) t303 t307 _ A42.out).mono ?_); rintro e w' ⟨rfl, ⟨nd, rfl⟩⟩; refine ⟨_, rfl, ?_⟩))
                                            go_loopg [19] k4 (fun kq v19 w' => ∃ (x7_5 : List (List Int)) (x19_5 : Int), v19 = .int .i64 x19_5 ∧ Aside0 (affidavitref04_Can.l5 kq a0 a2 x7_5 x11_2 x12_2 t303 x17_4 t307 x19_5 = some r) ∧ Aside0 (kq ≤ k4) ∧ Aside0 (Kd.S (Kd.slice 22 (Kd.int .u64)) 23 w' w.heap.size (fun _ => True) (.slice (some adS) x7_4.length co36) x7_5) ∧ Aside0 (Below w.heap.size w w'))
                                            case atStart => exact ⟨(x7_4), (x12_2), (by first | rfl | (simp; done) | (simp [*]; done)), H', ⟨Nat.le_refl _⟩, ⟨by (try simp only [hl7_4]); (with_reducible repeat (first | apply Kd.S_alloc | apply Kd.S_drewN | apply Kd.S_drew)); exact HO_7.out⟩, ⟨by repeat (first | (with_reducible first | exact HB.out | apply below_alloc | apply pw_below_drewN | apply below_drew1) | exact HB.out)⟩⟩
                                            case round =>
                                              clear H'
                                              try clear c1
                                              try clear c2
                                              try clear p2
                                              try clear q2
                                              try clear hx2
                                              try clear c3
                                              try clear p3
                                              try clear q3
                                              try clear hx3
                                              try clear c4
                                              try clear c4b0
                                              try clear c5
                                              try clear c5b0
                                              try clear p6
                                              try clear c7
                                              try clear c7b0
                                              try clear c8
                                              try clear c8b0
                                              try clear c9
                                              try clear c11
                                              try clear c11b0
                                              try clear c12
                                              try clear c12b0
                                              try clear c14
                                              try clear c15
                                              try clear c19
                                              try clear c19b0
                                              try clear c20
                                              try clear c20b0
                                              try clear c21
                                              try clear c21b0
                                              try clear c22
                                              try clear c22b0
                                              try clear c23
                                              try clear c23b0
                                              try clear c24
                                              try clear c24b0
                                              try clear c24b1
                                              try clear c26
                                              try clear c26b0
                                              try clear p28
                                              try clear q28
                                              try clear hx28
                                              try clear c29
                                              try clear c29b0
                                              try clear p29
                                              try clear q29
                                              try clear hx29
                                              try clear c30
                                              try clear p30
                                              try clear q30
                                              try clear hx30
                                              try clear c31
                                              try clear c31b0
                                              try clear c32
                                              try clear c32b0
                                              try clear c33
                                              try clear c33b0
                                              try clear c34
                                              try clear c34b0
                                              try clear c38
                                              try clear c38b0
                                              try clear c39
                                              try clear c39b0
                                              try clear c40
                                              try clear c40b0
                                              try clear c41
                                              try clear c41b0
                                              try clear hx287_0
                                              try clear hx291_0
                                              try clear hx299_0
                                              try clear hx300_0
                                              try clear hx301_0
                                              try clear hx302_0
                                              try clear hx305_0
                                              try clear hx306_0
                                              try clear p2
                                              try clear p28
                                              try clear p287
                                              try clear p29
                                              try clear p291
                                              try clear p299
                                              try clear p3
                                              try clear p30
                                              try clear p300
                                              try clear p301
                                              try clear p302
                                              try clear p305
                                              try clear p306
                                              try clear p6
                                              try clear q2
                                              try clear q28
                                              try clear q287
                                              try clear q29
                                              try clear q291
                                              try clear q299
                                              try clear q3
                                              try clear q30
                                              try clear q300
                                              try clear q301
                                              try clear q302
                                              try clear q305
                                              try clear q306
                                              obtain ⟨x7_5, x19_5, rfl, HA, HK5, HO_7, HB⟩ := hrel
                                              have hl7_5 := (Kd.S_reads' HO_7.out).1
                                              rw [hl7_5] at HO_7
                                              (try simp only [hl7_5])
                                              cases gk with
                                              | zero => exact absurd HA.out (by simp [affidavitref04_Can.l5])
                                              | succ k5 =>
                                                have H := HA.out
                                                clear HA
                                                simp only [affidavitref04_Can.l5] at H
                                                by_cases c43 : x19_5 ≤ a2
                                                · rw [if_pos c43] at H
                                                  have c43b0 : decide (x19_5 ≤ a2) = true := decide_eq_true c43
                                                  clear c43
                                                  by_cases c44 : 0 ≤ x17_4
                                                  · rw [if_pos c44] at H
                                                    have c44b0 : decide (0 ≤ x17_4) = true := decide_eq_true c44
                                                    clear c44
                                                    by_cases c45 : x17_4 < (x7_5.length : Int)
                                                    · rw [if_pos c45] at H
                                                      have c45b0 : decide (x17_4 < (x7_5.length : Int)) = true := decide_eq_true c45
                                                      have c45b0z := c45b0; (try simp only [hl7_4, hl7_5] at c45b0z)
                                                      clear c45
                                                      by_cases c46 : 0 ≤ x19_5
                                                      · rw [if_pos c46] at H
                                                        have c46b0 : decide (0 ≤ x19_5) = true := decide_eq_true c46
                                                        clear c46
                                                        by_cases c47 : x19_5 < ((rd_L1 x7_5 x17_4).length : Int)
                                                        · rw [if_pos c47] at H
                                                          have c47b0 : decide (x19_5 < ((rd_L1 x7_5 x17_4).length : Int)) = true := decide_eq_true c47
                                                          have c47b0z := c47b0; (try simp only [hl7_4, hl7_5] at c47b0z)
                                                          clear c47
                                                          by_cases c48 : 0 ≤ x11_2
                                                          · rw [if_pos c48] at H
                                                            have c48b0 : decide (0 ≤ x11_2) = true := decide_eq_true c48
                                                            clear c48
                                                            by_cases c49 : x11_2 < (x7_5.length : Int)
                                                            · rw [if_pos c49] at H
                                                              have c49b0 : decide (x11_2 < (x7_5.length : Int)) = true := decide_eq_true c49
                                                              have c49b0z := c49b0; (try simp only [hl7_4, hl7_5] at c49b0z)
                                                              clear c49
                                                              by_cases c50 : x19_5 < ((rd_L1 x7_5 x11_2).length : Int)
                                                              · rw [if_pos c50] at H
                                                                have c50b0 : decide (x19_5 < ((rd_L1 x7_5 x11_2).length : Int)) = true := decide_eq_true c50
                                                                have c50b0z := c50b0; (try simp only [hl7_4, hl7_5] at c50b0z)
                                                                clear c50
                                                                replace H := Option.bind_eq_some_iff.mp H
                                                                obtain ⟨t313, A510, H⟩ := H
                                                                replace H : ((affidavitref01_Sub.f a0 (rd (rd_L1 x7_5 x17_4) x19_5) t313).bind fun t314 => (affidavitref04_Can.l5 k5 a0 a2 (x7_5.set (x17_4 : Int).toNat ((rd_L1 x7_5 x17_4).set (x19_5 : Int).toNat t314)) x11_2 x12_2 t303 x17_4 t307 (wrap64 (x19_5 + 1)))) = some r := H
                                                                have A51 := Aside0.mk A510
                                                                clear A510
                                                                replace H := Option.bind_eq_some_iff.mp H
                                                                obtain ⟨t314, A520, H⟩ := H
                                                                replace H : (affidavitref04_Can.l5 k5 a0 a2 (x7_5.set (x17_4 : Int).toNat ((rd_L1 x7_5 x17_4).set (x19_5 : Int).toNat t314)) x11_2 x12_2 t303 x17_4 t307 (wrap64 (x19_5 + 1))) = some r := H
                                                                have A52 := Aside0.mk A520
                                                                clear A520
                                                                obtain ⟨y315, hy315⟩ : ∃ y_ : List Int, y_ = ((rd_L1 x7_5 x17_4).set (x19_5 : Int).toNat t314) := ⟨_, rfl⟩
                                                                replace H : (affidavitref04_Can.l5 k5 a0 a2 (x7_5.set (x17_4 : Int).toNat y315) x11_2 x12_2 t303 x17_4 t307 (wrap64 (x19_5 + 1))) = some r := by first | (rw [hy315]; with_reducible exact H) | (have H2_ := (Option.bind_some _ _).symm.trans H; rw [hy315]; with_reducible exact H2_) | (have H2_ := (Option.bind_some _ _).symm.trans H; with_reducible exact H2_) | with_reducible exact H | (rw [hy315]; exact H) | exact H
                                                                have Ny315 := Aside0.mk hy315
                                                                clear hy315
                                                                obtain ⟨y317, hy317⟩ : ∃ y_ : List (List Int), y_ = (x7_5.set (x17_4 : Int).toNat y315) := ⟨_, rfl⟩
                                                                replace H : (affidavitref04_Can.l5 k5 a0 a2 y317 x11_2 x12_2 t303 x17_4 t307 (wrap64 (x19_5 + 1))) = some r := by first | (rw [hy317]; with_reducible exact H) | (have H2_ := (Option.bind_some _ _).symm.trans H; rw [hy317]; with_reducible exact H2_) | (have H2_ := (Option.bind_some _ _).symm.trans H; with_reducible exact H2_) | with_reducible exact H | (rw [hy317]; exact H) | exact H
                                                                have Ny317 := Aside0.mk hy317
                                                                clear hy317
                                                                have H' := Aside0.mk H
                                                                clear H
                                                                try go_wp2
                                                                have n0_ := Aside0.mk (Kd.S_drew HO_7.out)
                                                                have n1_ := Aside0.mk (below_drew1 HB.out)
                                                                clear HO_7
                                                                clear HB
                                                                have HO_7 := n0_
                                                                have HB := n1_
                                                                clear n0_ n1_
                                                                have p308 : 0 ≤ (x17_4 : Int) := of_decide_eq_true (by first | (with_reducible assumption) | assumption)
                                                                have q308 : x17_4 < (x7_5.length : Int) := of_decide_eq_true (by first | (with_reducible assumption) | assumption)
                                                                obtain ⟨ad308, A308_0, c308_0, e308, hx308_0, hl308_0, hi308_0⟩ := at_L1 (Kd.S_reads' HO_7.out).2.2 x17_4 p308 q308
                                                                obtain rfl : adS = ad308 := (by injection e308)
                                                                obtain ⟨ce308, hce308, hMe308, hcc308⟩ := Kd.S_get HO_7.out [] x17_4 p308 (by first | exact q308 | exact of_decide_eq_true (by first | (with_reducible assumption) | assumption) | (have e_ := (Kd.S_reads' HO_7.out).1; omega))
                                                                obtain ⟨ve308_0, rfl, ge308_0⟩ := hMe308
                                                                have hv308_0 := hcc308 0 _ rfl
                                                                rw [Nat.add_zero, show ((Kd.slice 22 (Kd.int .u64))).sz = 1 from rfl, Nat.mul_one] at hv308_0
                                                                replace hv308_0 := Option.some.inj (hv308_0.symm.trans hx308_0)
                                                                rw [hv308_0] at ge308_0
                                                                have HL308_0 := Aside0.mk (show Kd.R (Kd.int .u64) 22 _ _ _ _ (rd_L1 x7_5 x17_4) from ge308_0)
                                                                clear hv308_0 ge308_0
                                                                have HX308_0 := Aside0.mk hx308_0
                                                                clear hcc308 hce308
                                                                have HR308_0 := Aside0.mk hi308_0
                                                                have HC308_0 := Aside0.mk hl308_0
                                                                clear hi308_0 hl308_0
                                                                replace p308 := eq_true p308
                                                                replace q308 := eq_true q308
                                                                have p309 : 0 ≤ (x17_4 : Int) := of_decide_eq_true (by first | (with_reducible assumption) | assumption)
                                                                have q309 : x17_4 < (x7_5.length : Int) := of_decide_eq_true (by first | (with_reducible assumption) | assumption)
                                                                obtain ⟨ad309, A309_0, c309_0, e309, hx309_0, hl309_0, hi309_0⟩ := at_L1 (Kd.S_reads' HO_7.out).2.2 x17_4 p309 q309
                                                                obtain rfl : adS = ad309 := (by injection e309)
                                                                obtain ⟨ce309, hce309, hMe309, hcc309⟩ := Kd.S_get HO_7.out [] x17_4 p309 (by first | exact q309 | exact of_decide_eq_true (by first | (with_reducible assumption) | assumption) | (have e_ := (Kd.S_reads' HO_7.out).1; omega))
                                                                obtain ⟨ve309_0, rfl, ge309_0⟩ := hMe309
                                                                have hv309_0 := hcc309 0 _ rfl
                                                                rw [Nat.add_zero, show ((Kd.slice 22 (Kd.int .u64))).sz = 1 from rfl, Nat.mul_one] at hv309_0
                                                                replace hv309_0 := Option.some.inj (hv309_0.symm.trans hx309_0)
                                                                rw [hv309_0] at ge309_0
                                                                have HL309_0 := Aside0.mk (show Kd.R (Kd.int .u64) 22 _ _ _ _ (rd_L1 x7_5 x17_4) from ge309_0)
                                                                clear hv309_0 ge309_0
                                                                have HX309_0 := Aside0.mk hx309_0
                                                                clear hcc309 hce309
                                                                have HR309_0 := Aside0.mk hi309_0
                                                                have HC309_0 := Aside0.mk hl309_0
                                                                clear hi309_0 hl309_0
                                                                replace p309 := eq_true p309
                                                                replace q309 := eq_true q309
                                                                have ea_ := Option.some.inj (hx308_0.symm.trans hx309_0)
                                                                injection ea_ with ea_ en_ ec_
                                                                subst ea_
                                                                subst ec_
                                                                clear en_
                                                                have p310 : 0 ≤ (x19_5 : Int) := of_decide_eq_true (by first | (with_reducible assumption) | assumption)
                                                                have q310 : x19_5 < ((rd_L1 x7_5 x17_4).length : Int) := of_decide_eq_true (by first | (with_reducible assumption) | assumption)
                                                                obtain ⟨ad310, e310, hx310_0⟩ := Kd.at_int (by repeat (first | (with_reducible exact HR309_0.out) | (with_reducible refine Kd.C_alloc ?_ _) | (with_reducible refine Kd.C_drewN ?_ _) | (with_reducible refine Kd.C_drew ?_) | exact HR309_0.out)) x19_5 p310 q310
                                                                cases e310
                                                                replace p310 := eq_true p310
                                                                replace q310 := eq_true q310
                                                                have p311 : 0 ≤ (x11_2 : Int) := of_decide_eq_true (by first | (with_reducible assumption) | assumption)
                                                                have q311 : x11_2 < (x7_5.length : Int) := of_decide_eq_true (by first | (with_reducible assumption) | assumption)
                                                                obtain ⟨ad311, A311_0, c311_0, e311, hx311_0, hl311_0, hi311_0⟩ := at_L1 (Kd.S_reads' HO_7.out).2.2 x11_2 p311 q311
                                                                obtain rfl : adS = ad311 := (by injection e311)
                                                                obtain ⟨ce311, hce311, hMe311, hcc311⟩ := Kd.S_get HO_7.out [] x11_2 p311 (by first | exact q311 | exact of_decide_eq_true (by first | (with_reducible assumption) | assumption) | (have e_ := (Kd.S_reads' HO_7.out).1; omega))
                                                                obtain ⟨ve311_0, rfl, ge311_0⟩ := hMe311
                                                                have hv311_0 := hcc311 0 _ rfl
                                                                rw [Nat.add_zero, show ((Kd.slice 22 (Kd.int .u64))).sz = 1 from rfl, Nat.mul_one] at hv311_0
                                                                replace hv311_0 := Option.some.inj (hv311_0.symm.trans hx311_0)
                                                                rw [hv311_0] at ge311_0
                                                                have HL311_0 := Aside0.mk (show Kd.R (Kd.int .u64) 22 _ _ _ _ (rd_L1 x7_5 x11_2) from ge311_0)
                                                                clear hv311_0 ge311_0
                                                                have HX311_0 := Aside0.mk hx311_0
                                                                clear hcc311 hce311
                                                                have HR311_0 := Aside0.mk hi311_0
                                                                have HC311_0 := Aside0.mk hl311_0
                                                                clear hi311_0 hl311_0
                                                                replace p311 := eq_true p311
                                                                replace q311 := eq_true q311
                                                                have p312 : 0 ≤ (x19_5 : Int) := of_decide_eq_true (by first | (with_reducible assumption) | assumption)
                                                                have q312 : x19_5 < ((rd_L1 x7_5 x11_2).length : Int) := of_decide_eq_true (by first | (with_reducible assumption) | assumption)
                                                                obtain ⟨ad312, e312, hx312_0⟩ := Kd.at_int (by repeat (first | (with_reducible exact HR311_0.out) | (with_reducible refine Kd.C_alloc ?_ _) | (with_reducible refine Kd.C_drewN ?_ _) | (with_reducible refine Kd.C_drew ?_) | exact HR311_0.out)) x19_5 p312 q312
                                                                cases e312
                                                                replace p312 := eq_true p312
                                                                replace q312 := eq_true q312
                                                                refine start_ (n := 26) (S := fun w' => w'.cell? (adS.add (x17_4).toNat) = some (.slice (some ad310) (rd_L1 x7_5 x17_4).length c308_0) ∧ w'.cell? (adS.add (x17_4).toNat) = some (.slice (some ad310) (rd_L1 x7_5 x17_4).length c308_0) ∧ w'.cell? (ad310.add (x19_5).toNat) = some (.int .u64 (rd (rd_L1 x7_5 x17_4) x19_5)) ∧ w'.cell? (adS.add (x11_2).toNat) = some (.slice (some ad312) (rd_L1 x7_5 x11_2).length c311_0) ∧ w'.cell? (ad312.add (x19_5).toNat) = some (.int .u64 (rd (rd_L1 x7_5 x11_2) x19_5))) (ds := [25]) #[false, false, false, false, false, false, false, false, false, false, false, false, false, false, false, false, false, false, false, false, false, false, false, false, false, false] (by kernel_rfl) rfl rfl ⟨hx308_0, hx309_0, hx310_0, hx311_0, hx312_0⟩ (fun hHeld => ?_); refine with_tabW affidavitref04_Can.tab31 affidavitref04_Can.bits31 (fun HT_ HW_ => ?_)
                                                                generalize wr.drew = w54 at HO_7 HB HL308_0 HL309_0 HL311_0 HR308_0 HR309_0 HR311_0 HX308_0 HX309_0 HX311_0 hx308_0 hx309_0 hx310_0 hx311_0 hx312_0 hHeld ⊢
                                                                refine pure_ (i := 0) (N := some 131) (v := ?_) (a' := ?_) #[true, false, false, false, false, false, false, false, false, false, false, false, false, false, false, false, false, false, false, false, false, false, false, false, false, false] rfl rfl (any_of HT_.out (by kernel_rfl)) (fun _ _ _ h => h) (Or.inl ⟨by rfl, ?_⟩) ?_ ?_
                                                                rotate_left
                                                                · intro w'
                                                                  go_simp
                                                                  with_reducible rfl
                                                                rotate_left
                                                                · simp only [Act.put, List.setIfInBounds_toArray, List.set_cons_zero, List.set_cons_succ, i64_w, i32_w]
                                                                  rfl
                                                                refine pure_ (i := 1) (N := some 132) (v := ?_) (a' := ?_) #[true, true, false, false, false, false, false, false, false, false, false, false, false, false, false, false, false, false, false, false, false, false, false, false, false, false] rfl rfl (any_of HT_.out (by kernel_rfl)) (fun _ _ _ h => h) (Or.inl ⟨by rfl, ?_⟩) ?_ ?_
                                                                rotate_left
                                                                · intro w'
                                                                  go_simp
                                                                  with_reducible rfl
                                                                rotate_left
                                                                · simp only [Act.put, List.setIfInBounds_toArray, List.set_cons_zero, List.set_cons_succ, i64_w, i32_w]
                                                                  rfl
                                                                refine pure_ (i := 2) (N := some 133) (v := ?_) (a' := ?_) #[true, true, true, false, false, false, false, false, false, false, false, false, false, false, false, false, false, false, false, false, false, false, false, false, false, false] rfl rfl (any_of HT_.out (by kernel_rfl)) (fun _ _ _ h => h) (Or.inl ⟨by rfl, ?_⟩) ?_ ?_
                                                                rotate_left
                                                                · intro w'
                                                                  go_simp
                                                                  with_reducible rfl
                                                                rotate_left
                                                                · simp only [Act.put, List.setIfInBounds_toArray, List.set_cons_zero, List.set_cons_succ, i64_w, i32_w]
                                                                  rfl
                                                                refine pure_ (i := 4) (N := some 135) (v := ?_) (a' := ?_) #[true, true, true, false, true, false, false, false, false, false, false, false, false, false, false, false, false, false, false, false, false, false, false, false, false, false] rfl rfl (any_of HT_.out (by kernel_rfl)) (fun _ _ _ h => h) (Or.inl ⟨by rfl, ?_⟩) ?_ ?_
                                                                rotate_left
                                                                · intro w'
                                                                  go_simp
                                                                  with_reducible rfl
                                                                rotate_left
                                                                · simp only [Act.put, List.setIfInBounds_toArray, List.set_cons_zero, List.set_cons_succ, i64_w, i32_w]
                                                                  rfl
                                                                refine pure_ (i := 5) (N := some 136) (v := ?_) (a' := ?_) #[true, true, true, false, true, true, false, false, false, false, false, false, false, false, false, false, false, false, false, false, false, false, false, false, false, false] rfl rfl (any_of HT_.out (by kernel_rfl)) (fun _ _ _ h => h) (Or.inl ⟨by rfl, ?_⟩) ?_ ?_
                                                                rotate_left
                                                                · intro w'
                                                                  go_simp
                                                                  with_reducible rfl
                                                                rotate_left
                                                                · simp only [Act.put, List.setIfInBounds_toArray, List.set_cons_zero, List.set_cons_succ, i64_w, i32_w]
                                                                  rfl
                                                                refine pure_ (i := 6) (N := some 137) (v := ?_) (a' := ?_) #[true, true, true, false, true, true, true, false, false, false, false, false, false, false, false, false, false, false, false, false, false, false, false, false, false, false] rfl rfl (any_of HT_.out (by kernel_rfl)) (fun _ _ _ h => h) (Or.inl ⟨by rfl, ?_⟩) ?_ ?_
                                                                rotate_left
                                                                · intro w'
                                                                  go_simp
                                                                  with_reducible rfl
                                                                rotate_left
                                                                · simp only [Act.put, List.setIfInBounds_toArray, List.set_cons_zero, List.set_cons_succ, i64_w, i32_w]
                                                                  rfl
                                                                refine pure_ (i := 7) (N := some 138) (v := ?_) (a' := ?_) #[true, true, true, false, true, true, true, true, false, false, false, false, false, false, false, false, false, false, false, false, false, false, false, false, false, false] rfl rfl (any_of HT_.out (by kernel_rfl)) (fun _ _ _ h => h) (Or.inl ⟨by rfl, ?_⟩) ?_ ?_
                                                                rotate_left
                                                                · intro w'
                                                                  go_simp
                                                                  with_reducible rfl
                                                                rotate_left
                                                                · simp only [Act.put, List.setIfInBounds_toArray, List.set_cons_zero, List.set_cons_succ, i64_w, i32_w]
                                                                  rfl
                                                                refine pure_ (i := 8) (N := some 139) (v := ?_) (a' := ?_) #[true, true, true, false, true, true, true, true, true, false, false, false, false, false, false, false, false, false, false, false, false, false, false, false, false, false] rfl rfl (any_of HT_.out (by kernel_rfl)) (fun _ _ _ h => h) (Or.inl ⟨by rfl, ?_⟩) ?_ ?_
                                                                rotate_left
                                                                · intro w'
                                                                  go_simp
                                                                  with_reducible rfl
                                                                rotate_left
                                                                · simp only [Act.put, List.setIfInBounds_toArray, List.set_cons_zero, List.set_cons_succ, i64_w, i32_w]
                                                                  rfl
                                                                refine pure_ (i := 10) (N := some 141) (v := ?_) (a' := ?_) #[true, true, true, false, true, true, true, true, true, false, true, false, false, false, false, false, false, false, false, false, false, false, false, false, false, false] rfl rfl (any_of HT_.out (by kernel_rfl)) (fun _ _ _ h => h) (Or.inl ⟨by rfl, ?_⟩) ?_ ?_
                                                                rotate_left
                                                                · intro w'
                                                                  go_simp
                                                                  with_reducible rfl
                                                                rotate_left
                                                                · simp only [Act.put, List.setIfInBounds_toArray, List.set_cons_zero, List.set_cons_succ, i64_w, i32_w]
                                                                  rfl
                                                                refine pure_ (i := 13) (N := some 144) (v := ?_) (a' := ?_) #[true, true, true, false, true, true, true, true, true, false, true, false, false, true, false, false, false, false, false, false, false, false, false, false, false, false] rfl rfl (any_of HT_.out (by kernel_rfl)) (fun _ _ _ h => h) (Or.inl ⟨by rfl, ?_⟩) ?_ ?_
                                                                rotate_left
                                                                · intro w'
                                                                  go_simp
                                                                  with_reducible rfl
                                                                rotate_left
                                                                · simp only [Act.put, List.setIfInBounds_toArray, List.set_cons_zero, List.set_cons_succ, i64_w, i32_w]
                                                                  rfl
                                                                refine pure_ (i := 14) (N := some 145) (v := ?_) (a' := ?_) #[true, true, true, false, true, true, true, true, true, false, true, false, false, true, true, false, false, false, false, false, false, false, false, false, false, false] rfl rfl (any_of HT_.out (by kernel_rfl)) (fun _ _ _ h => h) (Or.inl ⟨by rfl, ?_⟩) ?_ ?_
                                                                rotate_left
                                                                · intro w'
                                                                  go_simp
                                                                  with_reducible rfl
                                                                rotate_left
                                                                · simp only [Act.put, List.setIfInBounds_toArray, List.set_cons_zero, List.set_cons_succ, i64_w, i32_w]
                                                                  rfl
                                                                refine pure_ (i := 15) (N := some 146) (v := ?_) (a' := ?_) #[true, true, true, false, true, true, true, true, true, false, true, false, false, true, true, true, false, false, false, false, false, false, false, false, false, false] rfl rfl (any_of HT_.out (by kernel_rfl)) (fun _ _ _ h => h) (Or.inl ⟨by rfl, ?_⟩) ?_ ?_
                                                                rotate_left
                                                                · intro w'
                                                                  go_simp
                                                                  with_reducible rfl
                                                                rotate_left
                                                                · simp only [Act.put, List.setIfInBounds_toArray, List.set_cons_zero, List.set_cons_succ, i64_w, i32_w]
                                                                  rfl
                                                                refine pure_ (i := 16) (N := some 147) (v := ?_) (a' := ?_) #[true, true, true, false, true, true, true, true, true, false, true, false, false, true, true, true, true, false, false, false, false, false, false, false, false, false] rfl rfl (any_of HT_.out (by kernel_rfl)) (fun _ _ _ h => h) (Or.inl ⟨by rfl, ?_⟩) ?_ ?_
                                                                rotate_left
                                                                · intro w'
                                                                  go_simp
                                                                  with_reducible rfl
                                                                rotate_left
                                                                · simp only [Act.put, List.setIfInBounds_toArray, List.set_cons_zero, List.set_cons_succ, i64_w, i32_w]
                                                                  rfl
                                                                refine pure_ (i := 17) (N := some 148) (v := ?_) (a' := ?_) #[true, true, true, false, true, true, true, true, true, false, true, false, false, true, true, true, true, true, false, false, false, false, false, false, false, false] rfl rfl (any_of HT_.out (by kernel_rfl)) (fun _ _ _ h => h) (Or.inl ⟨by rfl, ?_⟩) ?_ ?_
                                                                rotate_left
                                                                · intro w'
                                                                  go_simp
                                                                  with_reducible rfl
                                                                rotate_left
                                                                · simp only [Act.put, List.setIfInBounds_toArray, List.set_cons_zero, List.set_cons_succ, i64_w, i32_w]
                                                                  rfl
                                                                refine pure_ (i := 19) (N := some 150) (v := ?_) (a' := ?_) #[true, true, true, false, true, true, true, true, true, false, true, false, false, true, true, true, true, true, false, true, false, false, false, false, false, false] rfl rfl (any_of HT_.out (by kernel_rfl)) (fun _ _ _ h => h) (Or.inl ⟨by rfl, ?_⟩) ?_ ?_
                                                                rotate_left
                                                                · intro w'
                                                                  go_simp
                                                                  with_reducible rfl
                                                                rotate_left
                                                                · simp only [Act.put, List.setIfInBounds_toArray, List.set_cons_zero, List.set_cons_succ, i64_w, i32_w]
                                                                  rfl
                                                                refine take_ (i := 3) (N := some 134) (v := ?_) (a' := ?_) #[true, true, true, true, true, true, true, true, true, false, true, false, false, true, true, true, true, true, false, true, false, false, false, false, false, false] rfl rfl (take_ofW HT_.out HW_.out (by kernel_rfl)) (fun _ _ _ h => h) (Or.inl ⟨by rfl, ?_⟩) hHeld ?_ ?_
                                                                rotate_left
                                                                · rintro w' ⟨s0, s1, s2, s3, s4⟩
                                                                  go_simp
                                                                  with_reducible rfl
                                                                rotate_left
                                                                · simp only [Act.put, List.setIfInBounds_toArray, List.set_cons_zero, List.set_cons_succ, i64_w, i32_w]
                                                                  rfl
                                                                refine take_ (i := 9) (N := some 140) (v := ?_) (a' := ?_) #[true, true, true, true, true, true, true, true, true, true, true, false, false, true, true, true, true, true, false, true, false, false, false, false, false, false] rfl rfl (take_ofW HT_.out HW_.out (by kernel_rfl)) (fun _ _ _ h => h) (Or.inl ⟨by rfl, ?_⟩) hHeld ?_ ?_
                                                                rotate_left
                                                                · rintro w' ⟨s0, s1, s2, s3, s4⟩
                                                                  go_simp
                                                                  with_reducible rfl
                                                                rotate_left
                                                                · simp only [Act.put, List.setIfInBounds_toArray, List.set_cons_zero, List.set_cons_succ, i64_w, i32_w]
                                                                  rfl
                                                                refine pure_ (i := 11) (N := some 142) (v := ?_) (a' := ?_) #[true, true, true, true, true, true, true, true, true, true, true, true, false, true, true, true, true, true, false, true, false, false, false, false, false, false] rfl rfl (any_of HT_.out (by kernel_rfl)) (fun _ _ _ h => h) (Or.inl ⟨by rfl, ?_⟩) ?_ ?_
                                                                rotate_left
                                                                · intro w'
                                                                  go_simp
                                                                  with_reducible rfl
                                                                rotate_left
                                                                · simp only [Act.put, List.setIfInBounds_toArray, List.set_cons_zero, List.set_cons_succ, i64_w, i32_w]
                                                                  rfl
                                                                refine take_ (i := 12) (N := some 143) (v := ?_) (a' := ?_) #[true, true, true, true, true, true, true, true, true, true, true, true, true, true, true, true, true, true, false, true, false, false, false, false, false, false] rfl rfl (take_ofW HT_.out HW_.out (by kernel_rfl)) (fun _ _ _ h => h) (Or.inl ⟨by rfl, ?_⟩) hHeld ?_ ?_
                                                                rotate_left
                                                                · rintro w' ⟨s0, s1, s2, s3, s4⟩
                                                                  go_simp
                                                                  with_reducible rfl
                                                                rotate_left
                                                                · simp only [Act.put, List.setIfInBounds_toArray, List.set_cons_zero, List.set_cons_succ, i64_w, i32_w]
                                                                  rfl
                                                                refine take_ (i := 18) (N := some 149) (v := ?_) (a' := ?_) #[true, true, true, true, true, true, true, true, true, true, true, true, true, true, true, true, true, true, true, true, false, false, false, false, false, false] rfl rfl (take_ofW HT_.out HW_.out (by kernel_rfl)) (fun _ _ _ h => h) (Or.inl ⟨by rfl, ?_⟩) hHeld ?_ ?_
                                                                rotate_left
                                                                · rintro w' ⟨s0, s1, s2, s3, s4⟩
                                                                  go_simp
                                                                  with_reducible rfl
                                                                rotate_left
                                                                · simp only [Act.put, List.setIfInBounds_toArray, List.set_cons_zero, List.set_cons_succ, i64_w, i32_w]
                                                                  rfl
                                                                refine pure_ (i := 20) (N := some 151) (v := ?_) (a' := ?_) #[true, true, true, true, true, true, true, true, true, true, true, true, true, true, true, true, true, true, true, true, true, false, false, false, false, false] rfl rfl (any_of HT_.out (by kernel_rfl)) (fun _ _ _ h => h) (Or.inl ⟨by rfl, ?_⟩) ?_ ?_
                                                                rotate_left
                                                                · intro w'
                                                                  go_simp
                                                                  with_reducible rfl
                                                                rotate_left
                                                                · simp only [Act.put, List.setIfInBounds_toArray, List.set_cons_zero, List.set_cons_succ, i64_w, i32_w]
                                                                  rfl
                                                                refine take_ (i := 21) (N := some 152) (v := ?_) (a' := ?_) #[true, true, true, true, true, true, true, true, true, true, true, true, true, true, true, true, true, true, true, true, true, true, false, false, false, false] rfl rfl (take_ofW HT_.out HW_.out (by kernel_rfl)) (fun _ _ _ h => h) (Or.inl ⟨by rfl, ?_⟩) hHeld ?_ ?_
                                                                rotate_left
                                                                · rintro w' ⟨s0, s1, s2, s3, s4⟩
                                                                  go_simp
                                                                  with_reducible rfl
                                                                rotate_left
                                                                · simp only [Act.put, List.setIfInBounds_toArray, List.set_cons_zero, List.set_cons_succ, i64_w, i32_w]
                                                                  rfl
                                                                refine one_ (i := 22) (N := some 153) #[true, true, true, true, true, true, true, true, true, true, true, true, true, true, true, true, true, true, true, true, true, true, true, false, false, false] rfl rfl (one_of HT_.out (by kernel_rfl)) (by decide) (fun K hK => ?_)
                                                                refine goes_ Try.func50 (by kernel_rfl) rfl #[.int .u64 a0, .int .u64 t307, .int .u64 (rd (rd_L1 x7_5 x11_2) x19_5)] (by rfl) rfl rfl (by (try simp only [List.map_toArray, List.map_cons, List.map_nil]); first | done | rfl | (simp only [List.length_drop, List.length_take]; rfl)) ?_
                                                                with_reducible refine (affidavitref01_Mul.calls k5 a0 t307 (rd (rd_L1 x7_5 x11_2) x19_5) t313 _ A51.out).mono ?_
                                                                rintro e w' ⟨rfl, ⟨nd, rfl⟩⟩
                                                                refine ⟨_, rfl, ?_⟩
                                                                refine hK.out _ _ ⟨hHeld.1, hHeld.2.1, hHeld.2.2.1, hHeld.2.2.2.1, hHeld.2.2.2.2⟩ (fun hHeld => ?_)
                                                                clear hK K
                                                                refine norm_ (a' := ?_) ?_ ?_
                                                                rotate_left
                                                                · show Act.put _ (some 153) _ = _
                                                                  simp only [Act.put, List.setIfInBounds_toArray, List.set_cons_zero, List.set_cons_succ, i64_w, i32_w]
                                                                  rfl
                                                                refine one_ (i := 23) (N := some 154) #[true, true, true, true, true, true, true, true, true, true, true, true, true, true, true, true, true, true, true, true, true, true, true, true, false, false] rfl rfl (one_of HT_.out (by kernel_rfl)) (by decide) (fun K hK => ?_)
                                                                refine goes_ Try.func73 (by kernel_rfl) rfl #[.int .u64 a0, .int .u64 (rd (rd_L1 x7_5 x17_4) x19_5), .int .u64 t313] (by rfl) rfl rfl (by (try simp only [List.map_toArray, List.map_cons, List.map_nil]); first | done | rfl | (simp only [List.length_drop, List.length_take]; rfl)) ?_
                                                                with_reducible refine (affidavitref01_Sub.calls a0 (rd (rd_L1 x7_5 x17_4) x19_5) t313 t314 _ A52.out).mono ?_
                                                                rintro e w' ⟨rfl, ⟨nd, rfl⟩⟩
                                                                refine ⟨_, rfl, ?_⟩
                                                                have p53 : 0 ≤ (x19_5 : Int) := of_decide_eq_true (by first | (with_reducible assumption) | assumption)
                                                                have q53 : (x19_5 : Int) < (((rd_L1 x7_5 x17_4).length : Int) : Int) := of_decide_eq_true (by first | (with_reducible assumption) | assumption)
                                                                obtain ⟨go53, co53, eo53, gb53, gl53, cl53, HG53⟩ := Kd.R_form HL308_0.out (by omega)
                                                                (first | cases eo53 | (injection eo53 with ea_ en_ ec_; (first | subst ea_ | (injection ea_ with ea_; subst ea_)); subst ec_; clear en_))
                                                                have GB53 := Aside0.mk gb53
                                                                have GG53 := Aside0.mk HG53
                                                                clear gb53 gl53 HG53
                                                                (first | simp only [add_plain] at hx310_0 | skip)
                                                                obtain ⟨hx53_0, hf53_0⟩ := Kd.R_celln 0 HL308_0.out (x19_5 : Int) p53 q53
                                                                replace p53 := eq_true p53
                                                                replace q53 := eq_true q53
                                                                have hq55 : (x17_4 : Int) < (x7_5.length : Int) := (by have h_ : (x17_4 : Int) < ((x7_5.length : Int) : Int) := of_decide_eq_true (by first | (with_reducible assumption) | assumption); first | exact h_ | (have e_ := (Kd.S_reads' HO_7.out).1; omega) | simpa only [List.length_set, List.length_set] using h_)
                                                                obtain ⟨oki55, ce55, hcl55, hM55, hcc55, hok55, hbk55⟩ := Kd.S_borrow HO_7.out [] (x17_4 : Int) (of_decide_eq_true (by first | (with_reducible assumption) | assumption)) hq55
                                                                obtain ⟨ve55_0, rfl, ge55_0⟩ := hM55
                                                                have hv55 := hcc55 0 _ rfl
                                                                rw [Nat.add_zero, show ((Kd.slice 22 (Kd.int .u64))).sz = 1 from rfl, Nat.mul_one] at hv55
                                                                replace hv55 := Option.some.inj (hv55.symm.trans HX308_0.out)
                                                                subst hv55
                                                                clear hcc55 hcl55
                                                                replace ge55_0 := (show Kd.R (Kd.int .u64) 22 _ _ _ _ (rd_L1 x7_5 x17_4) from ge55_0)
                                                                have HP55 := Kd.R_putg ge55_0 (x19_5 : Int) t314
                                                                rw [← Ny315.out] at HP55
                                                                have HS55 := hbk55 HP55.2 (fun k_ e_ => by injection e_ with e_; subst e_; exact ge55_0.1 _ rfl) (x' := y315) (Kd.M_row HP55.1)
                                                                rw [← Ny317.out] at HS55
                                                                have HQ55 := Aside0.mk HS55
                                                                clear HP55 HS55 hbk55 hok55
                                                                refine hK.out _ _ ⟨hHeld.1, hHeld.2.1, hHeld.2.2.1, hHeld.2.2.2.1, hHeld.2.2.2.2⟩ (fun hHeld => ?_)
                                                                clear hK K
                                                                refine norm_ (a' := ?_) ?_ ?_
                                                                rotate_left
                                                                · show Act.put _ (some 154) _ = _
                                                                  simp only [Act.put, List.setIfInBounds_toArray, List.set_cons_zero, List.set_cons_succ, i64_w, i32_w]
                                                                  rfl
                                                                refine pure_ (i := 24) (N := some 155) (v := ?_) (a' := ?_) #[true, true, true, true, true, true, true, true, true, true, true, true, true, true, true, true, true, true, true, true, true, true, true, true, true, false] rfl rfl (any_of HT_.out (by kernel_rfl)) (fun _ _ _ h => h) (Or.inl ⟨by rfl, ?_⟩) ?_ ?_
                                                                rotate_left
                                                                · intro w'
                                                                  go_simp
                                                                  with_reducible rfl
                                                                rotate_left
                                                                · simp only [Act.put, List.setIfInBounds_toArray, List.set_cons_zero, List.set_cons_succ, i64_w, i32_w]
                                                                  rfl
                                                                refine last_ (i := 25) (N := none) #[true, true, true, true, true, true, true, true, true, true, true, true, true, true, true, true, true, true, true, true, true, true, true, true, true, true] rfl rfl (one_of HT_.out (by kernel_rfl)) (by decide) (fun K hK => ?_)
                                                                refine skip_ (w1 := ?_) (by rfl) rfl ?_ ?_
                                                                rotate_left
                                                                · go_simp
                                                                  rfl
                                                                refine hK.out _ _ ?_
                                                                clear hK K
                                                                refine done_ (done_of HT_.out (by kernel_rfl)) ?_
                                                                try go_wp2
                                                                (try simp only [← hl7_5])
                                                                (first | go_roundg k5 | (refine Handed.intro k5 ?measure ?_; rotate_left; go_step; (repeat apply Exists.intro); refine ⟨?rel, ?fr_⟩; (case fr_ => (simp only [Addr.add_lit, Nat.zero_add]; rfl))))
                                                                case measure => have := HK1.out; have := HK2.out; have := HK3.out; have := HK4.out; have := HK5.out; omega
                                                                case rel => exact ⟨(y317), (wrap64 (x19_5 + 1)), (by first | rfl | (simp; done) | (simp [*]; done)), H', ⟨by have := HK1.out; have := HK2.out; have := HK3.out; have := HK4.out; have := HK5.out; omega⟩, ⟨by (try simp only [hl7_4]); (try simp only [hl7_5]); (with_reducible repeat (first | apply Kd.S_alloc | apply Kd.S_drewN | apply Kd.S_drew)); exact HQ55.out⟩, ⟨by repeat (first | (with_reducible first | exact HB.out | apply below_alloc | apply pw_below_drewN | apply below_drew1 | refine below_set ?_ GB53.out) | exact HB.out)⟩⟩
                                                              · rw [if_neg c50] at H
                                                                exact absurd H (by simp)
                                                            · rw [if_neg c49] at H
                                                              exact absurd H (by simp)
                                                          · rw [if_neg c48] at H
                                                            exact absurd H (by simp)
                                                        · rw [if_neg c47] at H
                                                          exact absurd H (by simp)
                                                      · rw [if_neg c46] at H
                                                        exact absurd H (by simp)
                                                    · rw [if_neg c45] at H
                                                      exact absurd H (by simp)
                                                  · rw [if_neg c44] at H
                                                    exact absurd H (by simp)
                                                · rw [if_neg c43] at H
                                                  have c43b0 : decide (x19_5 ≤ a2) = false := decide_eq_false c43
                                                  clear c43
                                                  have H' := Aside0.mk H
                                                  clear H
                                                  go_wp2
                                                  (try simp only [← hl7_4, ← hl7_5])
                                                  (first | go_roundg k5 | (refine Handed.intro k5 ?measure ?_; rotate_left; go_step; (repeat apply Exists.intro); refine ⟨?rel, ?fr_⟩; (case fr_ => (simp only [Addr.add_lit, Nat.zero_add]; rfl))))
                                                  case measure => have := HK1.out; have := HK2.out; have := HK3.out; have := HK4.out; have := HK5.out; omega
                                                  case rel => exact ⟨(x7_5), (wrap64 (x17_4 + 1)), (by first | rfl | (simp; done) | (simp [*]; done)), H', ⟨by have := HK1.out; have := HK2.out; have := HK3.out; have := HK4.out; have := HK5.out; omega⟩, ⟨by (try simp only [hl7_4]); (try simp only [hl7_5]); (with_reducible repeat (first | apply Kd.S_alloc | apply Kd.S_drewN | apply Kd.S_drew)); exact HO_7.out⟩, ⟨by repeat (first | (with_reducible first | exact HB.out | apply below_alloc | apply pw_below_drewN | apply below_drew1) | exact HB.out)⟩⟩
                                          · rw [if_neg c41] at H
                                            exact absurd H (by simp)
                                        · rw [if_neg c40] at H
                                          exact absurd H (by simp)
                                      · rw [if_neg c39] at H
                                        exact absurd H (by simp)
                                    · rw [if_neg c38] at H
                                      have c38b0 : decide (x17_4 < (x7_4.length : Int)) = false := decide_eq_false c38
                                      have c38b0z := c38b0; (try simp only [hl7_4] at c38b0z)
                                      clear c38
                                      have H' := Aside0.mk H
                                      clear H
                                      go_wp2
                                      (try simp only [← hl7_4])
                                      rw [HAD.out, ← hlen.out]
                                      (first | go_roundg k4 | (refine Handed.intro k4 ?measure ?_; rotate_left; go_step; (repeat apply Exists.intro); refine ⟨?rel, ?fr_⟩; (case fr_ => (simp only [Addr.add_lit, Nat.zero_add]; rfl))))
                                      case measure => have := HK1.out; have := HK2.out; have := HK3.out; have := HK4.out; omega
                                      case rel => exact ⟨(x7_4), (wrap64 (x11_2 + 1)), (wrap64 (x12_2 + 1)), (by first | rfl | (simp; done) | (simp [*]; done)), (by first | rfl | (simp; done) | (simp [*]; done)), H', ⟨by have := HK1.out; have := HK2.out; have := HK3.out; have := HK4.out; omega⟩, ⟨by rw [hlen.out, ← HAD.out]; (try simp only [hl7_4]); (with_reducible repeat (first | apply Kd.S_alloc | apply Kd.S_drewN | apply Kd.S_drew)); exact HO_7.out⟩, ⟨by repeat (first | (with_reducible first | exact HB.out | apply below_alloc | apply pw_below_drewN | apply below_drew1) | exact HB.out)⟩⟩
                              · rw [if_neg c34] at H
                                exact absurd H (by simp)
                            · rw [if_neg c33] at H
                              exact absurd H (by simp)
                          · rw [if_neg c32] at H
                            exact absurd H (by simp)
                        · rw [if_neg c31] at H
                          exact absurd H (by simp)
                      · rw [if_neg s1] at H
                        exact absurd H (by simp)
            · rw [if_neg c19] at H
              have c19b0 : decide (x12_2 < a2) = false := decide_eq_false c19
              clear c19
              have H' := Aside0.mk H
              clear H
              go_wp2
              go_loopg [20] k2 (fun kq v20 w' => ∃ (x20_3 : Int), v20 = .int .i64 x20_3 ∧ Aside0 (affidavitref04_Can.l6 kq a2 x7_2 x20_3 = some r) ∧ Aside0 (kq ≤ k2) ∧ Aside0 (Kd.S (Kd.slice 22 (Kd.int .u64)) 23 w' w.heap.size (fun _ => True) u7 x7_2) ∧ Aside0 (Below w.heap.size w w'))
              case atStart => exact ⟨(x11_2), (by first | rfl | (simp; done) | (simp [*]; done)), H', ⟨Nat.le_refl _⟩, ⟨by (with_reducible repeat (first | apply Kd.S_alloc | apply Kd.S_drewN | apply Kd.S_drew)); exact HO_7.out⟩, ⟨by repeat (first | (with_reducible first | exact HB.out | apply below_alloc | apply pw_below_drewN | apply below_drew1) | exact HB.out)⟩⟩
              case round =>
                clear H'
                try clear c1
                try clear c2
                try clear p2
                try clear q2
                try clear hx2
                try clear c3
                try clear p3
                try clear q3
                try clear hx3
                try clear c4
                try clear c4b0
                try clear c5
                try clear c5b0
                try clear p5
                try clear q5
                try clear hx5
                try clear hf5
                try clear p6
                try clear c7
                try clear c7b0
                try clear c8
                try clear c8b0
                try clear c9
                try clear c11
                try clear c11b0
                try clear c12
                try clear c12b0
                try clear c14
                try clear c15
                try clear c19
                try clear c19b0
                try clear c20
                try clear c20b0
                try clear c21
                try clear c21b0
                try clear c22
                try clear c22b0
                try clear c23
                try clear c23b0
                try clear c24
                try clear c24b0
                try clear c24b1
                try clear c26
                try clear c26b0
                try clear p28
                try clear q28
                try clear hx28
                try clear c29
                try clear c29b0
                try clear p29
                try clear q29
                try clear hx29
                try clear c30
                try clear p30
                try clear q30
                try clear hx30
                try clear c31
                try clear c31b0
                try clear p31
                try clear q31
                try clear hx31
                try clear c32
                try clear c32b0
                try clear c33
                try clear c33b0
                try clear c34
                try clear c34b0
                try clear c38
                try clear c38b0
                try clear c39
                try clear c39b0
                try clear c40
                try clear c40b0
                try clear c41
                try clear c41b0
                try clear c43
                try clear c43b0
                try clear c44
                try clear c44b0
                try clear c45
                try clear c45b0
                try clear c46
                try clear c46b0
                try clear c47
                try clear c47b0
                try clear c48
                try clear c48b0
                try clear c49
                try clear c49b0
                try clear c50
                try clear c50b0
                try clear p53
                try clear q53
                try clear hx53
                try clear hf53
                try clear c55
                try clear q55
                try clear hx287_0
                try clear hx291_0
                try clear hx299_0
                try clear hx300_0
                try clear hx301_0
                try clear hx302_0
                try clear hx305_0
                try clear hx306_0
                try clear hx308_0
                try clear hx309_0
                try clear hx310_0
                try clear hx311_0
                try clear hx312_0
                try clear hx53_0
                try clear p2
                try clear p28
                try clear p287
                try clear p29
                try clear p291
                try clear p299
                try clear p3
                try clear p30
                try clear p300
                try clear p301
                try clear p302
                try clear p305
                try clear p306
                try clear p308
                try clear p309
                try clear p310
                try clear p311
                try clear p312
                try clear p53
                try clear p6
                try clear q2
                try clear q28
                try clear q287
                try clear q29
                try clear q291
                try clear q299
                try clear q3
                try clear q30
                try clear q300
                try clear q301
                try clear q302
                try clear q305
                try clear q306
                try clear q308
                try clear q309
                try clear q310
                try clear q311
                try clear q312
                try clear q53
                obtain ⟨x20_3, rfl, HA, HK3, HO_7, HB⟩ := hrel
                cases gk with
                | zero => exact absurd HA.out (by simp [affidavitref04_Can.l6])
                | succ k3 =>
                  have H := HA.out
                  clear HA
                  simp only [affidavitref04_Can.l6] at H
                  by_cases c57 : x20_3 < (x7_2.length : Int)
                  · rw [if_pos c57] at H
                    have c57b0 : decide (x20_3 < (x7_2.length : Int)) = true := decide_eq_true c57
                    clear c57
                    by_cases c58 : 0 ≤ x20_3
                    · rw [if_pos c58] at H
                      have c58b0 : decide (0 ≤ x20_3) = true := decide_eq_true c58
                      clear c58
                      by_cases c59 : 0 ≤ a2
                      · rw [if_pos c59] at H
                        have c59b0 : decide (0 ≤ a2) = true := decide_eq_true c59
                        clear c59
                        by_cases c60 : a2 < ((rd_L1 x7_2 x20_3).length : Int)
                        · rw [if_pos c60] at H
                          have c60b0 : decide (a2 < ((rd_L1 x7_2 x20_3).length : Int)) = true := decide_eq_true c60
                          clear c60
                          by_cases c61 : (rd (rd_L1 x7_2 x20_3) a2) = 0
                          · rw [if_pos c61] at H
                            have c61b0 : ((rd (rd_L1 x7_2 x20_3) a2) == 0) = true := beq_iff_eq.mpr c61
                            have c61b1 : ((rd (rd_L1 x7_2 x20_3) a2) != 0) = false := bne_eq_false_iff_eq.mpr c61
                            clear c61
                            have H' := Aside0.mk H
                            clear H
                            obtain ⟨Ao62, co62, eo62⟩ := Kd.S_slice HO_7.out
                            subst eo62
                            have p318 : 0 ≤ (x20_3 : Int) := of_decide_eq_true (by first | (with_reducible assumption) | assumption)
                            have q318 : x20_3 < (x7_2.length : Int) := of_decide_eq_true (by first | (with_reducible assumption) | assumption)
                            obtain ⟨ad318, A318_0, c318_0, e318, hx318_0, hl318_0, hi318_0⟩ := at_L1 (Kd.S_reads' HO_7.out).2.2 x20_3 p318 q318
                            cases e318
                            obtain ⟨ce318, hce318, hMe318, hcc318⟩ := Kd.S_get HO_7.out [] x20_3 p318 (by first | exact q318 | exact of_decide_eq_true (by first | (with_reducible assumption) | assumption) | (have e_ := (Kd.S_reads' HO_7.out).1; omega))
                            obtain ⟨ve318_0, rfl, ge318_0⟩ := hMe318
                            have hv318_0 := hcc318 0 _ rfl
                            rw [Nat.add_zero, show ((Kd.slice 22 (Kd.int .u64))).sz = 1 from rfl, Nat.mul_one] at hv318_0
                            replace hv318_0 := Option.some.inj (hv318_0.symm.trans hx318_0)
                            rw [hv318_0] at ge318_0
                            have HL318_0 := Aside0.mk (show Kd.R (Kd.int .u64) 22 _ _ _ _ (rd_L1 x7_2 x20_3) from ge318_0)
                            clear hv318_0 ge318_0
                            have HX318_0 := Aside0.mk hx318_0
                            clear hcc318 hce318
                            have HR318_0 := Aside0.mk hi318_0
                            have HC318_0 := Aside0.mk hl318_0
                            clear hi318_0 hl318_0
                            replace p318 := eq_true p318
                            replace q318 := eq_true q318
                            have p319 : 0 ≤ (a2 : Int) := of_decide_eq_true (by first | (with_reducible assumption) | assumption)
                            have q319 : a2 < ((rd_L1 x7_2 x20_3).length : Int) := of_decide_eq_true (by first | (with_reducible assumption) | assumption)
                            obtain ⟨ad319, e319, hx319_0⟩ := Kd.at_int (by repeat (first | (with_reducible exact HR318_0.out) | (with_reducible refine Kd.C_alloc ?_ _) | (with_reducible refine Kd.C_drewN ?_ _) | (with_reducible refine Kd.C_drew ?_) | exact HR318_0.out)) a2 p319 q319
                            cases e319
                            replace p319 := eq_true p319
                            replace q319 := eq_true q319
                            go_wp2
                            (first | go_roundg k3 | (refine Handed.intro k3 ?measure ?_; rotate_left; go_step; (repeat apply Exists.intro); refine ⟨?rel, ?fr_⟩; (case fr_ => (simp only [Addr.add_lit, Nat.zero_add]; rfl))))
                            case measure => have := HK1.out; have := HK2.out; have := HK3.out; omega
                            case rel => exact ⟨(wrap64 (x20_3 + 1)), (by first | rfl | (simp; done) | (simp [*]; done)), H', ⟨by have := HK1.out; have := HK2.out; have := HK3.out; omega⟩, ⟨by (with_reducible repeat (first | apply Kd.S_alloc | apply Kd.S_drewN | apply Kd.S_drew)); exact HO_7.out⟩, ⟨by repeat (first | (with_reducible first | exact HB.out | apply below_alloc | apply pw_below_drewN | apply below_drew1) | exact HB.out)⟩⟩
                          · rw [if_neg c61] at H
                            have c61b0 : ((rd (rd_L1 x7_2 x20_3) a2) == 0) = false := beq_eq_false_iff_ne.mpr c61
                            have c61b1 : ((rd (rd_L1 x7_2 x20_3) a2) != 0) = true := bne_iff_ne.mpr c61
                            obtain rfl := Option.some.inj H
                            obtain ⟨Ao63, co63, eo63⟩ := Kd.S_slice HO_7.out
                            subst eo63
                            have p318 : 0 ≤ (x20_3 : Int) := of_decide_eq_true (by first | (with_reducible assumption) | assumption)
                            have q318 : x20_3 < (x7_2.length : Int) := of_decide_eq_true (by first | (with_reducible assumption) | assumption)
                            obtain ⟨ad318, A318_0, c318_0, e318, hx318_0, hl318_0, hi318_0⟩ := at_L1 (Kd.S_reads' HO_7.out).2.2 x20_3 p318 q318
                            cases e318
                            obtain ⟨ce318, hce318, hMe318, hcc318⟩ := Kd.S_get HO_7.out [] x20_3 p318 (by first | exact q318 | exact of_decide_eq_true (by first | (with_reducible assumption) | assumption) | (have e_ := (Kd.S_reads' HO_7.out).1; omega))
                            obtain ⟨ve318_0, rfl, ge318_0⟩ := hMe318
                            have hv318_0 := hcc318 0 _ rfl
                            rw [Nat.add_zero, show ((Kd.slice 22 (Kd.int .u64))).sz = 1 from rfl, Nat.mul_one] at hv318_0
                            replace hv318_0 := Option.some.inj (hv318_0.symm.trans hx318_0)
                            rw [hv318_0] at ge318_0
                            have HL318_0 := Aside0.mk (show Kd.R (Kd.int .u64) 22 _ _ _ _ (rd_L1 x7_2 x20_3) from ge318_0)
                            clear hv318_0 ge318_0
                            have HX318_0 := Aside0.mk hx318_0
                            clear hcc318 hce318
                            have HR318_0 := Aside0.mk hi318_0
                            have HC318_0 := Aside0.mk hl318_0
                            clear hi318_0 hl318_0
                            replace p318 := eq_true p318
                            replace q318 := eq_true q318
                            have p319 : 0 ≤ (a2 : Int) := of_decide_eq_true (by first | (with_reducible assumption) | assumption)
                            have q319 : a2 < ((rd_L1 x7_2 x20_3).length : Int) := of_decide_eq_true (by first | (with_reducible assumption) | assumption)
                            obtain ⟨ad319, e319, hx319_0⟩ := Kd.at_int (by repeat (first | (with_reducible exact HR318_0.out) | (with_reducible refine Kd.C_alloc ?_ _) | (with_reducible refine Kd.C_drewN ?_ _) | (with_reducible refine Kd.C_drew ?_) | exact HR318_0.out)) a2 p319 q319
                            cases e319
                            replace p319 := eq_true p319
                            replace q319 := eq_true q319
                            go_wp2
                            go_ret
                            exact ⟨by first | rfl | (simp [errW_none, errW_some] <;> rfl) | (simp [*, errW_none, errW_some] <;> rfl), by repeat (first | (with_reducible first | exact HB.out | apply below_alloc | apply pw_below_drewN | apply below_drew1) | exact HB.out)⟩
                        · rw [if_neg c60] at H
                          exact absurd H (by simp)
                      · rw [if_neg c59] at H
                        exact absurd H (by simp)
                    · rw [if_neg c58] at H
                      exact absurd H (by simp)
                  · rw [if_neg c57] at H
                    have c57b0 : decide (x20_3 < (x7_2.length : Int)) = false := decide_eq_false c57
                    clear c57
                    obtain rfl := Option.some.inj H
                    obtain ⟨Ao64, co64, eo64⟩ := Kd.S_slice HO_7.out
                    subst eo64
                    go_wp2
                    go_ret
                    exact ⟨by first | rfl | (simp [errW_none, errW_some] <;> rfl) | (simp [*, errW_none, errW_some] <;> rfl), by repeat (first | (with_reducible first | exact HB.out | apply below_alloc | apply pw_below_drewN | apply below_drew1) | exact HB.out)⟩


end Go.Proofs.Ytffcjgelcdilcaa.Cn

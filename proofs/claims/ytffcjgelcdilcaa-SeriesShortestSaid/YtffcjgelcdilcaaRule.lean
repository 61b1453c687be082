/- series.Rule: its regions that draw their order, and its walk; the state is Massey's. -/
import Derived.Test.YtffcjgelcdilcaaStep
import Derived.Test.YtffcjgelcdilcaaPSerx1
set_option linter.unusedVariables false
set_option linter.unusedSimpArgs false
set_option linter.unusedSectionVars false
namespace Go.Proofs.Ytffcjgelcdilcaa.Sr
open Go.RowKit Go.Shelf Go.Proofs Go.Proofs.Ytffcjgelcdilcaa.PSer Go.Proofs.YtffcjgelcdilcaaW.PrintWords Go.Proofs.YtffcjgelcdilcaaW.PrintLast Go.Proofs.YtffcjgelcdilcaaW.PrintMore Go.Proofs.Ytffcjgelcdilcaa.Rd

def rl_T12 : Bool × List (List Nat × List Nat) := (true, [([], []), ([0], [0]), ([1], [1]), ([2], [2]), ([3], [3]), ([], []), ([5], [5]), ([6], [6]), ([7], [7]), ([8], [8]), ([4, 9], [4, 9])])
def rl_B12 : List Nat := [0, 1, 3, 7, 15, 0, 32, 96, 224, 480, 1023]
theorem rl_tab12 : rtab .any (opsOf Try.f25 12) = rl_T12 := by kernel_rfl
theorem rl_bits12 : waitsOk rl_T12.2 rl_B12 = true := by kernel_rfl

set_option maxHeartbeats 8000000 in
set_option maxRecDepth 100000 in
theorem rl_len (Q : Exit → Act → World → Prop) (W : World) (g : Nat) (c : List Int) (n : Int) (Ac : Option Addr) (cc : Nat) {u0 u1 u2 u3 u4 u5 u7 u8 u9 u10 u11 u12 u13 u14 u15 u16 u17 u18 u19 u20 u21 u22 u23 u24 u25 u26 u27 u28 u29 u30 u31 u32 u33 u34 u35 u36 u37 u38 u39 u40 u41 u42 u43 u44 u45 u46 u47 u48 u49 u50 u51 u52 u53 u54 u55 u56 u57 u58 u59 u60 u61 u62 : Value}
    (h0 : W.cell? ⟨g, 0, none⟩ = some (.slice Ac c.length cc)) (h2 : W.cell? ⟨g, 2, none⟩ = some (.int .i64 n))
    (hQ : ∀ w', w' = W.drew → Q .normal { tmps := #[u0, u1, u2, u3, u4, u5, .pointer (some ⟨g, 0, none⟩), u7, u8, u9, u10, u11, u12, u13, u14, u15, u16, u17, u18, u19, u20, u21, u22, u23, u24, u25, u26, u27, u28, u29, u30, u31, u32, .pointer (some ⟨g, 0, none⟩), .pointer (some ⟨g, 0, none⟩), .pointer (some ⟨g, 0, none⟩), .slice Ac c.length cc, .int .i64 c.length, .pointer (some ⟨g, 0, none⟩), .pointer (some ⟨g, 0, none⟩), .pointer (some ⟨g, 2, none⟩), .int .i64 n, .int .i64 (wrap64 (n + 1)), .bool (decide ((c.length : Int) < wrap64 (n + 1))), u44, u45, u46, u47, u48, u49, u50, u51, u52, u53, u54, u55, u56, u57, u58, u59, u60, u61, u62], defers := [] } w') :
    (Code.region 12 (opsOf Try.f25 12) true).wp Try.prog Q
      { tmps := #[u0, u1, u2, u3, u4, u5, .pointer (some ⟨g, 0, none⟩), u7, u8, u9, u10, u11, u12, u13, u14, u15, u16, u17, u18, u19, u20, u21, u22, u23, u24, u25, u26, u27, u28, u29, u30, u31, u32, u33, u34, u35, u36, u37, u38, u39, u40, u41, u42, u43, u44, u45, u46, u47, u48, u49, u50, u51, u52, u53, u54, u55, u56, u57, u58, u59, u60, u61, u62], defers := [] } W := by
  simp only [opsOf, Try.f25, opsIn, Option.bind_some, Option.bind, Option.getD, beq_iff_eq, if_true, if_false, Nat.reduceBEq, Bool.false_eq_true, Nat.reduceEqDiff]
  refine Code.wp_mono (Q := fun e a w' => e = .normal ∧ a = { tmps := #[u0, u1, u2, u3, u4, u5, .pointer (some ⟨g, 0, none⟩), u7, u8, u9, u10, u11, u12, u13, u14, u15, u16, u17, u18, u19, u20, u21, u22, u23, u24, u25, u26, u27, u28, u29, u30, u31, u32, .pointer (some ⟨g, 0, none⟩), .pointer (some ⟨g, 0, none⟩), .pointer (some ⟨g, 0, none⟩), .slice Ac c.length cc, .int .i64 c.length, .pointer (some ⟨g, 0, none⟩), .pointer (some ⟨g, 0, none⟩), .pointer (some ⟨g, 2, none⟩), .int .i64 n, .int .i64 (wrap64 (n + 1)), .bool (decide ((c.length : Int) < wrap64 (n + 1))), u44, u45, u46, u47, u48, u49, u50, u51, u52, u53, u54, u55, u56, u57, u58, u59, u60, u61, u62], defers := [] } ∧ w' = W.drew) ?_ ?_
  · rintro e a w' ⟨rfl, rfl, rfl⟩
    exact hQ _ rfl
  clear hQ
  refine start_ (n := 11) (S := fun w' => w'.cell? ⟨g, 0, none⟩ = some (.slice Ac c.length cc) ∧ w'.cell? ⟨g, 2, none⟩ = some (.int .i64 n)) (ds := []) #[false, false, false, false, false, false, false, false, false, false, false] (by kernel_rfl) rfl rfl ⟨h0, h2⟩ (fun hHeld => ?_)
  refine with_tabW rl_tab12 rl_bits12 (fun HT_ HW_ => ?_)
  refine pure_ (i := 0) (N := some 33) (v := .pointer (some ⟨g, 0, none⟩)) (a' := ?_) #[true, false, false, false, false, false, false, false, false, false, false] rfl rfl (any_of HT_.out (by kernel_rfl)) (fun _ _ _ h => by cases h.1) (Or.inl ⟨by rfl, ?_⟩) ?_ ?_
  · intro w'
    go_simp
    try with_reducible rfl
  rotate_left
  · simp only [Act.put, List.setIfInBounds_toArray, List.set_cons_zero, List.set_cons_succ]
    rfl
  refine pure_ (i := 1) (N := some 34) (v := .pointer (some ⟨g, 0, none⟩)) (a' := ?_) #[true, true, false, false, false, false, false, false, false, false, false] rfl rfl (any_of HT_.out (by kernel_rfl)) (fun _ _ _ h => by cases h.1) (Or.inl ⟨by rfl, ?_⟩) ?_ ?_
  · intro w'
    go_simp
    try with_reducible rfl
  rotate_left
  · simp only [Act.put, List.setIfInBounds_toArray, List.set_cons_zero, List.set_cons_succ]
    rfl
  refine pure_ (i := 2) (N := some 35) (v := .pointer (some ⟨g, 0, none⟩)) (a' := ?_) #[true, true, true, false, false, false, false, false, false, false, false] rfl rfl (any_of HT_.out (by kernel_rfl)) (fun _ _ _ h => by cases h.1) (Or.inl ⟨by rfl, ?_⟩) ?_ ?_
  · intro w'
    go_simp
    try with_reducible rfl
  rotate_left
  · simp only [Act.put, List.setIfInBounds_toArray, List.set_cons_zero, List.set_cons_succ]
    rfl
  refine take_ (i := 3) (N := some 36) (v := .slice Ac c.length cc) (a' := ?_) #[true, true, true, true, false, false, false, false, false, false, false] rfl rfl (take_ofW HT_.out HW_.out (by kernel_rfl)) (fun _ _ _ h => by cases h.1) (Or.inl ⟨by rfl, ?_⟩) hHeld ?_ ?_
  · intro w' s0
    obtain ⟨s1, s2⟩ := s0
    go_simp
    try with_reducible rfl
  rotate_left
  · simp only [Act.put, List.setIfInBounds_toArray, List.set_cons_zero, List.set_cons_succ]
    rfl
  refine pure_ (i := 4) (N := some 37) (v := .int .i64 c.length) (a' := ?_) #[true, true, true, true, true, false, false, false, false, false, false] rfl rfl (any_of HT_.out (by kernel_rfl)) (fun _ _ _ h => by cases h.1) (Or.inl ⟨by rfl, ?_⟩) ?_ ?_
  · intro w'
    go_simp
    try with_reducible rfl
  rotate_left
  · simp only [Act.put, List.setIfInBounds_toArray, List.set_cons_zero, List.set_cons_succ]
    rfl
  refine pure_ (i := 5) (N := some 38) (v := .pointer (some ⟨g, 0, none⟩)) (a' := ?_) #[true, true, true, true, true, true, false, false, false, false, false] rfl rfl (any_of HT_.out (by kernel_rfl)) (fun _ _ _ h => by cases h.1) (Or.inl ⟨by rfl, ?_⟩) ?_ ?_
  · intro w'
    go_simp
    try with_reducible rfl
  rotate_left
  · simp only [Act.put, List.setIfInBounds_toArray, List.set_cons_zero, List.set_cons_succ]
    rfl
  refine pure_ (i := 6) (N := some 39) (v := .pointer (some ⟨g, 0, none⟩)) (a' := ?_) #[true, true, true, true, true, true, true, false, false, false, false] rfl rfl (any_of HT_.out (by kernel_rfl)) (fun _ _ _ h => by cases h.1) (Or.inl ⟨by rfl, ?_⟩) ?_ ?_
  · intro w'
    go_simp
    try with_reducible rfl
  rotate_left
  · simp only [Act.put, List.setIfInBounds_toArray, List.set_cons_zero, List.set_cons_succ]
    rfl
  refine pure_ (i := 7) (N := some 40) (v := .pointer (some ⟨g, 2, none⟩)) (a' := ?_) #[true, true, true, true, true, true, true, true, false, false, false] rfl rfl (any_of HT_.out (by kernel_rfl)) (fun _ _ _ h => by cases h.1) (Or.inl ⟨by rfl, ?_⟩) ?_ ?_
  · intro w'
    go_simp
    try with_reducible rfl
  rotate_left
  · simp only [Act.put, List.setIfInBounds_toArray, List.set_cons_zero, List.set_cons_succ]
    rfl
  refine take_ (i := 8) (N := some 41) (v := .int .i64 n) (a' := ?_) #[true, true, true, true, true, true, true, true, true, false, false] rfl rfl (take_ofW HT_.out HW_.out (by kernel_rfl)) (fun _ _ _ h => by cases h.1) (Or.inl ⟨by rfl, ?_⟩) hHeld ?_ ?_
  · intro w' s0
    obtain ⟨s1, s2⟩ := s0
    go_simp
    try with_reducible rfl
  rotate_left
  · simp only [Act.put, List.setIfInBounds_toArray, List.set_cons_zero, List.set_cons_succ]
    rfl
  refine pure_ (i := 9) (N := some 42) (v := .int .i64 (wrap64 (n + 1))) (a' := ?_) #[true, true, true, true, true, true, true, true, true, true, false] rfl rfl (any_of HT_.out (by kernel_rfl)) (fun _ _ _ h => by cases h.1) (Or.inl ⟨by rfl, ?_⟩) ?_ ?_
  · intro w'
    go_simp
    exact IntWalk.i64_left _
  rotate_left
  · simp only [Act.put, List.setIfInBounds_toArray, List.set_cons_zero, List.set_cons_succ]
    rfl
  refine pure_ (i := 10) (N := some 43) (v := .bool (decide ((c.length : Int) < wrap64 (n + 1)))) (a' := ?_) #[true, true, true, true, true, true, true, true, true, true, true] rfl rfl (any_of HT_.out (by kernel_rfl)) (fun _ _ _ h => by cases h.1) (Or.inl ⟨by rfl, ?_⟩) ?_ ?_
  · intro w'
    go_simp
    try with_reducible rfl
  rotate_left
  · simp only [Act.put, List.setIfInBounds_toArray, List.set_cons_zero, List.set_cons_succ]
    rfl
  refine done_ (done_of HT_.out (by kernel_rfl)) ?_
  exact ⟨rfl, rfl, rfl⟩
def rl_T14 : Bool × List (List Nat × List Nat) := (true, [([], []), ([0], [0]), ([1], [1]), ([2], [2]), ([], []), ([4], [4]), ([5], [5]), ([6], [6]), ([7], [7]), ([3, 8], [3, 8]), ([9, 0, 1, 2, 3, 4, 5, 6, 7, 8, 9], [9]), ([10, 0, 1, 2, 3, 4, 5, 6, 7, 8, 9, 10], [])])
def rl_B14 : List Nat := [0, 1, 3, 7, 0, 16, 48, 112, 240, 511, 1023, 2047]
theorem rl_tab14 : rtab .any (opsOf Try.f25 14) = rl_T14 := by kernel_rfl
theorem rl_bits14 : waitsOk rl_T14.2 rl_B14 = true := by kernel_rfl

set_option maxHeartbeats 8000000 in
set_option maxRecDepth 100000 in
theorem rl_end (Q : Exit → Act → World → Prop) (W : World) (g : Nat) (c : List Int) (n : Int) (Ac : Option Addr) (cc : Nat) (m : Nat) (hcut : ∀ W : World, (Instr.slice 23 (.slice Ac c.length cc) none (some (.int .i64 (wrap64 (n + 1)))) none).run Try.prog W = .ok (.slice Ac m cc) W) {u0 u1 u2 u3 u4 u5 u7 u8 u9 u10 u11 u12 u13 u14 u15 u16 u17 u18 u19 u20 u21 u22 u23 u24 u25 u26 u27 u28 u29 u30 u31 u32 u33 u34 u35 u36 u37 u38 u39 u40 u41 u42 u43 u44 u45 u46 u47 u48 u49 u50 u51 u52 u53 u54 u55 u56 u57 u58 u59 u60 u61 u62 : Value}
    (h0 : W.cell? ⟨g, 0, none⟩ = some (.slice Ac c.length cc)) (h2 : W.cell? ⟨g, 2, none⟩ = some (.int .i64 n))
    (hQ : ∀ w', w' = W.drew → Q .normal { tmps := #[u0, u1, u2, u3, .slice Ac m cc, .int .i64 0, .pointer (some ⟨g, 0, none⟩), u7, u8, u9, u10, u11, u12, u13, u14, u15, u16, u17, u18, u19, u20, u21, u22, u23, u24, u25, u26, u27, u28, u29, u30, u31, u32, u33, u34, u35, u36, u37, u38, u39, u40, u41, u42, u43, u44, u45, u46, u47, u48, u49, u50, u51, u52, .pointer (some ⟨g, 0, none⟩), .pointer (some ⟨g, 0, none⟩), .pointer (some ⟨g, 0, none⟩), .slice Ac c.length cc, .pointer (some ⟨g, 0, none⟩), .pointer (some ⟨g, 0, none⟩), .pointer (some ⟨g, 2, none⟩), .int .i64 n, .int .i64 (wrap64 (n + 1)), .slice Ac m cc], defers := [] } w') :
    (Code.region 14 (opsOf Try.f25 14) true).wp Try.prog Q
      { tmps := #[u0, u1, u2, u3, u4, u5, .pointer (some ⟨g, 0, none⟩), u7, u8, u9, u10, u11, u12, u13, u14, u15, u16, u17, u18, u19, u20, u21, u22, u23, u24, u25, u26, u27, u28, u29, u30, u31, u32, u33, u34, u35, u36, u37, u38, u39, u40, u41, u42, u43, u44, u45, u46, u47, u48, u49, u50, u51, u52, u53, u54, u55, u56, u57, u58, u59, u60, u61, u62], defers := [] } W := by
  simp only [opsOf, Try.f25, opsIn, Option.bind_some, Option.bind, Option.getD, beq_iff_eq, if_true, if_false, Nat.reduceBEq, Bool.false_eq_true, Nat.reduceEqDiff]
  refine Code.wp_mono (Q := fun e a w' => e = .normal ∧ a = { tmps := #[u0, u1, u2, u3, .slice Ac m cc, .int .i64 0, .pointer (some ⟨g, 0, none⟩), u7, u8, u9, u10, u11, u12, u13, u14, u15, u16, u17, u18, u19, u20, u21, u22, u23, u24, u25, u26, u27, u28, u29, u30, u31, u32, u33, u34, u35, u36, u37, u38, u39, u40, u41, u42, u43, u44, u45, u46, u47, u48, u49, u50, u51, u52, .pointer (some ⟨g, 0, none⟩), .pointer (some ⟨g, 0, none⟩), .pointer (some ⟨g, 0, none⟩), .slice Ac c.length cc, .pointer (some ⟨g, 0, none⟩), .pointer (some ⟨g, 0, none⟩), .pointer (some ⟨g, 2, none⟩), .int .i64 n, .int .i64 (wrap64 (n + 1)), .slice Ac m cc], defers := [] } ∧ w' = W.drew) ?_ ?_
  · rintro e a w' ⟨rfl, rfl, rfl⟩
    exact hQ _ rfl
  clear hQ
  refine start_ (n := 12) (S := fun w' => w'.cell? ⟨g, 0, none⟩ = some (.slice Ac c.length cc) ∧ w'.cell? ⟨g, 2, none⟩ = some (.int .i64 n)) (ds := []) #[false, false, false, false, false, false, false, false, false, false, false, false] (by kernel_rfl) rfl rfl ⟨h0, h2⟩ (fun hHeld => ?_)
  refine with_tabW rl_tab14 rl_bits14 (fun HT_ HW_ => ?_)
  refine pure_ (i := 0) (N := some 53) (v := .pointer (some ⟨g, 0, none⟩)) (a' := ?_) #[true, false, false, false, false, false, false, false, false, false, false, false] rfl rfl (any_of HT_.out (by kernel_rfl)) (fun _ _ _ h => by cases h.1) (Or.inl ⟨by rfl, ?_⟩) ?_ ?_
  · intro w'
    go_simp
    try with_reducible rfl
  rotate_left
  · simp only [Act.put, List.setIfInBounds_toArray, List.set_cons_zero, List.set_cons_succ]
    rfl
  refine pure_ (i := 1) (N := some 54) (v := .pointer (some ⟨g, 0, none⟩)) (a' := ?_) #[true, true, false, false, false, false, false, false, false, false, false, false] rfl rfl (any_of HT_.out (by kernel_rfl)) (fun _ _ _ h => by cases h.1) (Or.inl ⟨by rfl, ?_⟩) ?_ ?_
  · intro w'
    go_simp
    try with_reducible rfl
  rotate_left
  · simp only [Act.put, List.setIfInBounds_toArray, List.set_cons_zero, List.set_cons_succ]
    rfl
  refine pure_ (i := 2) (N := some 55) (v := .pointer (some ⟨g, 0, none⟩)) (a' := ?_) #[true, true, true, false, false, false, false, false, false, false, false, false] rfl rfl (any_of HT_.out (by kernel_rfl)) (fun _ _ _ h => by cases h.1) (Or.inl ⟨by rfl, ?_⟩) ?_ ?_
  · intro w'
    go_simp
    try with_reducible rfl
  rotate_left
  · simp only [Act.put, List.setIfInBounds_toArray, List.set_cons_zero, List.set_cons_succ]
    rfl
  refine take_ (i := 3) (N := some 56) (v := .slice Ac c.length cc) (a' := ?_) #[true, true, true, true, false, false, false, false, false, false, false, false] rfl rfl (take_ofW HT_.out HW_.out (by kernel_rfl)) (fun _ _ _ h => by cases h.1) (Or.inl ⟨by rfl, ?_⟩) hHeld ?_ ?_
  · intro w' s0
    obtain ⟨s1, s2⟩ := s0
    go_simp
    try with_reducible rfl
  rotate_left
  · simp only [Act.put, List.setIfInBounds_toArray, List.set_cons_zero, List.set_cons_succ]
    rfl
  refine pure_ (i := 4) (N := some 57) (v := .pointer (some ⟨g, 0, none⟩)) (a' := ?_) #[true, true, true, true, true, false, false, false, false, false, false, false] rfl rfl (any_of HT_.out (by kernel_rfl)) (fun _ _ _ h => by cases h.1) (Or.inl ⟨by rfl, ?_⟩) ?_ ?_
  · intro w'
    go_simp
    try with_reducible rfl
  rotate_left
  · simp only [Act.put, List.setIfInBounds_toArray, List.set_cons_zero, List.set_cons_succ]
    rfl
  refine pure_ (i := 5) (N := some 58) (v := .pointer (some ⟨g, 0, none⟩)) (a' := ?_) #[true, true, true, true, true, true, false, false, false, false, false, false] rfl rfl (any_of HT_.out (by kernel_rfl)) (fun _ _ _ h => by cases h.1) (Or.inl ⟨by rfl, ?_⟩) ?_ ?_
  · intro w'
    go_simp
    try with_reducible rfl
  rotate_left
  · simp only [Act.put, List.setIfInBounds_toArray, List.set_cons_zero, List.set_cons_succ]
    rfl
  refine pure_ (i := 6) (N := some 59) (v := .pointer (some ⟨g, 2, none⟩)) (a' := ?_) #[true, true, true, true, true, true, true, false, false, false, false, false] rfl rfl (any_of HT_.out (by kernel_rfl)) (fun _ _ _ h => by cases h.1) (Or.inl ⟨by rfl, ?_⟩) ?_ ?_
  · intro w'
    go_simp
    try with_reducible rfl
  rotate_left
  · simp only [Act.put, List.setIfInBounds_toArray, List.set_cons_zero, List.set_cons_succ]
    rfl
  refine take_ (i := 7) (N := some 60) (v := .int .i64 n) (a' := ?_) #[true, true, true, true, true, true, true, true, false, false, false, false] rfl rfl (take_ofW HT_.out HW_.out (by kernel_rfl)) (fun _ _ _ h => by cases h.1) (Or.inl ⟨by rfl, ?_⟩) hHeld ?_ ?_
  · intro w' s0
    obtain ⟨s1, s2⟩ := s0
    go_simp
    try with_reducible rfl
  rotate_left
  · simp only [Act.put, List.setIfInBounds_toArray, List.set_cons_zero, List.set_cons_succ]
    rfl
  refine pure_ (i := 8) (N := some 61) (v := .int .i64 (wrap64 (n + 1))) (a' := ?_) #[true, true, true, true, true, true, true, true, true, false, false, false] rfl rfl (any_of HT_.out (by kernel_rfl)) (fun _ _ _ h => by cases h.1) (Or.inl ⟨by rfl, ?_⟩) ?_ ?_
  · intro w'
    go_simp
    exact IntWalk.i64_left _
  rotate_left
  · simp only [Act.put, List.setIfInBounds_toArray, List.set_cons_zero, List.set_cons_succ]
    rfl
  refine pure_ (i := 9) (N := some 62) (v := .slice Ac m cc) (a' := ?_) #[true, true, true, true, true, true, true, true, true, true, false, false] rfl rfl (any_of HT_.out (by kernel_rfl)) (fun _ _ _ h => by cases h.1) (Or.inl ⟨by rfl, ?_⟩) ?_ ?_
  · intro w'
    go_simp
    first | done | exact hcut _ | (unfold execOp; exact hcut _)
  rotate_left
  · simp only [Act.put, List.setIfInBounds_toArray, List.set_cons_zero, List.set_cons_succ]
    rfl
  refine pure_ (i := 10) (N := some 4) (v := .slice Ac m cc) (a' := ?_) #[true, true, true, true, true, true, true, true, true, true, true, false] rfl rfl (any_of HT_.out (by kernel_rfl)) (fun _ _ _ h => by cases h.1) (Or.inl ⟨by rfl, ?_⟩) ?_ ?_
  · intro w'
    go_simp
    try with_reducible rfl
  rotate_left
  · simp only [Act.put, List.setIfInBounds_toArray, List.set_cons_zero, List.set_cons_succ]
    rfl
  refine pure_ (i := 11) (N := some 5) (v := .int .i64 0) (a' := ?_) #[true, true, true, true, true, true, true, true, true, true, true, true] rfl rfl (any_of HT_.out (by kernel_rfl)) (fun _ _ _ h => by cases h.1) (Or.inl ⟨by rfl, ?_⟩) ?_ ?_
  · intro w'
    go_simp
    try with_reducible rfl
  rotate_left
  · simp only [Act.put, List.setIfInBounds_toArray, List.set_cons_zero, List.set_cons_succ]
    rfl
  refine done_ (done_of HT_.out (by kernel_rfl)) ?_
  exact ⟨rfl, rfl, rfl⟩
theorem V_of_C {W : World} {A : Option Addr} {c : Nat} {xs : List Int} {e base : Nat} {ok : Nat → Prop} (h : Kd.C (Kd.int .u64) W A xs.length xs) (hl : xs.length ≤ c) (hok : 0 < xs.length → ∀ ad, A = some ad → ok ad.block) : Kd.V (Kd.int .u64) e W base ok (.slice A xs.length c) xs :=
  Kd.V_mk hl fun W' hW => ⟨h.1, h.2.1, fun hn => by
    obtain ⟨ad, ea, hc⟩ := h.2.2 hn
    refine ⟨ad, ea, fun j q hj => ?_⟩
    obtain ⟨c', h1, h2, h3⟩ := hc j q hj
    refine ⟨c', h1, h2, fun i u hu => ?_⟩
    have hcell := h3 i u hu
    have hlt := World.block_lt_of_cell? W _ hcell
    rw [Rf.add_block] at hlt
    have hb := hW ad.block (hok hn ad ea) hlt
    refine (World.cell?_of_block ?_).trans hcell
    rw [Rf.add_block]
    exact hb⟩
def rul.l1 : Nat → List Int → Int → Option (List Int × Int)
  | 0, _, _ => none
  | k + 1, c, n => if (c.length : Int) < wrap64 (n + 1) then (if c.length < 17592186044416 then rul.l1 k (c ++ [0]) n else none) else (if 0 ≤ wrap64 (n + 1) then some (c.take (wrap64 (n + 1)).toNat, 0) else none)
def rul.l0 : Nat → Int → List Int → Int → List Int → List Int → Int → Int → Int → Option (List Int × Int)
  | 0, _, _, _, _, _, _, _, _ => none
  | k + 1, p, s, i, c, b, n, left, ago => if i < (s.length : Int) then ((stp.f k p s i c b n left ago).bind fun r => if r.1 = true then rul.l0 k p s (wrap64 (i + 1)) r.2.1 r.2.2.1 r.2.2.2.1 r.2.2.2.2.1 r.2.2.2.2.2 else some ([], 5)) else rul.l1 k c n
def rul.f (k : Nat) (p : Int) (s : List Int) : Option (List Int × Int) := (field_Has.f k p s).bind fun t => if t = true then (if (s.length : Int) > 256 then some ([], 3) else rul.l0 k p s 0 [1] [1] 0 1 0) else some ([], 1)
theorem rul.l1_mono : ∀ k c n, LeO (rul.l1 k c n) (rul.l1 (k + 1) c n)
  | 0, _, _ => fun r h => by simp [rul.l1] at h
  | k + 1, c, n => by
    rw [rul.l1, rul.l1]
    exact LeO.ite (LeO.ite (rul.l1_mono k _ _) (LeO.refl _)) (LeO.refl _)
theorem rul.l0_mono : ∀ k p s i c b n left ago, LeO (rul.l0 k p s i c b n left ago) (rul.l0 (k + 1) p s i c b n left ago)
  | 0, _, _, _, _, _, _, _, _ => fun r h => by simp [rul.l0] at h
  | k + 1, p, s, i, c, b, n, left, ago => by
    rw [rul.l0, rul.l0]
    exact LeO.ite (LeO.bind (stp.mono _ _ _ _ _ _ _ _ _) fun r => LeO.ite (rul.l0_mono k _ _ _ _ _ _ _ _) (LeO.refl _)) (rul.l1_mono _ _ _)
theorem rul.mono (p : Int) (s : List Int) (k : Nat) : LeO (rul.f k p s) (rul.f (k + 1) p s) := by
  unfold rul.f
  exact LeO.bind (field_Has.mono _ _ _) fun t => LeO.ite (LeO.ite (LeO.refl _) (rul.l0_mono _ _ _ _ _ _ _ _ _)) (LeO.refl _)
def RulPost (w : World) (r1 : List Int) (r2 : Int) (e : Ending) (w' : World) : Prop :=
  ∃ v0_ : Value, e = .returned (.tuple #[v0_, .int .i64 r2]) ∧ Kd.V (Kd.int .u64) 22 w' w.heap.size (fun k_ => (w.heap.size ≤ k_)) v0_ r1 ∧ Below w.heap.size w w'
set_option maxHeartbeats 8000000 in
set_option maxRecDepth 100000 in
theorem rul.bad1 (k : Nat) (a0 : Int) (A1 : Option Addr) (c1 : Nat) (l1 : List Int) (w : World) (hr1 : Kd.C (Kd.int .u64) w A1 l1.length l1) (hc1 : l1.length ≤ c1) (h : field_Has.f k a0 l1 = some false) :
    Calls Try.prog 25 #[.int .u64 a0, .slice A1 l1.length c1] w (RulPost w [] 1) := by
  have HR1 := Aside0.mk hr1
  have A1_ := Aside0.mk h
  clear hr1 h
  unfold RulPost
  go_enter Try.func25, Try.ntmps25
  go_wp2_with (first | ((with_reducible refine gate_callee (f := 28) rfl ?_); refine goesL_ (some 11) rfl rfl Try.func28 (by kernel_rfl) rfl #[.int .u64 a0, .slice A1 l1.length c1] rfl (by (try simp only [List.map_toArray, List.map_cons, List.map_nil]); first | done | rfl) ?_; (with_reducible refine (field_Has.calls k a0 A1 c1 l1 false _ ?side1 hc1 A1_.out).mono ?_); (case side1 => repeat (first | exact HR1.out | (with_reducible refine Kd.C_alloc ?_ _) | (with_reducible refine Kd.C_drewN ?_ _) | (with_reducible refine Kd.C_drew ?_))); rintro e w7 ⟨rfl, m7, rfl⟩; refine ⟨_, rfl, ?_⟩))
  go_ret2
  exact ⟨_, rfl, V_of_C (xs := []) (Kd.C_nil _ _) (Nat.zero_le _) (fun h => absurd h (by simp)), by repeat (first | (with_reducible first | exact Below.refl _ _ | apply below_alloc | apply pw_below_drewN | apply below_drew1) | exact Below.refl _ _)⟩
set_option maxHeartbeats 8000000 in
set_option maxRecDepth 100000 in
theorem rul.bad2 (k : Nat) (a0 : Int) (A1 : Option Addr) (c1 : Nat) (l1 : List Int) (w : World) (hr1 : Kd.C (Kd.int .u64) w A1 l1.length l1) (hc1 : l1.length ≤ c1) (h : field_Has.f k a0 l1 = some true) (hl : (l1.length : Int) > 256) :
    Calls Try.prog 25 #[.int .u64 a0, .slice A1 l1.length c1] w (RulPost w [] 3) := by
  have HR1 := Aside0.mk hr1
  have A1_ := Aside0.mk h
  have hl' : decide (256 < (l1.length : Int)) = true := decide_eq_true hl
  clear hr1 h hl
  unfold RulPost
  go_enter Try.func25, Try.ntmps25
  go_wp2_with (first | ((with_reducible refine gate_callee (f := 28) rfl ?_); refine goesL_ (some 11) rfl rfl Try.func28 (by kernel_rfl) rfl #[.int .u64 a0, .slice A1 l1.length c1] rfl (by (try simp only [List.map_toArray, List.map_cons, List.map_nil]); first | done | rfl) ?_; (with_reducible refine (field_Has.calls k a0 A1 c1 l1 true _ ?side1 hc1 A1_.out).mono ?_); (case side1 => repeat (first | exact HR1.out | (with_reducible refine Kd.C_alloc ?_ _) | (with_reducible refine Kd.C_drewN ?_ _) | (with_reducible refine Kd.C_drew ?_))); rintro e w7 ⟨rfl, m7, rfl⟩; refine ⟨_, rfl, ?_⟩))
  go_ret2
  exact ⟨_, rfl, V_of_C (xs := []) (Kd.C_nil _ _) (Nat.zero_le _) (fun h => absurd h (by simp)), by repeat (first | (with_reducible first | exact Below.refl _ _ | apply below_alloc | apply pw_below_drewN | apply below_drew1) | exact Below.refl _ _)⟩
theorem Kd_C_lt {W : World} {ad : Addr} {n : Nat} {xs : List Int} (h : Kd.C (Kd.int .u64) W (some ad) n xs) (hn : 0 < n) : ad.block < W.heap.size := by
  obtain ⟨ad', e, hc⟩ := h.2.2 hn
  injection e with e
  subst e
  obtain ⟨c, h1, _, h3⟩ := hc 0 _ (List.getElem?_eq_getElem (by rw [h.1]; exact hn))
  have := World.block_lt_of_cell? W _ (h3 0 _ (List.getElem?_eq_getElem (by rw [h1]; decide)))
  rwa [Rf.add_block] at this
theorem Stt.drew {H g : Nat} {W : World} {c b : List Int} {n left ago : Int} (h : Stt H g W c b n left ago) : Stt H g W.drew c b n left ago := by
  obtain ⟨Ac, cc, Ab, cb, h1, h2, h3, h4, h5⟩ := h
  exact ⟨Ac, cc, Ab, cb, blk_drew h1, Kd.R_drew h2, h3, Kd.C_drew h4, h5⟩
theorem Stt.drewN {H g : Nat} {W : World} {c b : List Int} {n left ago : Int} (h : Stt H g W c b n left ago) (m : Nat) : Stt H g (W.drewN m) c b n left ago := by
  obtain ⟨Ac, cc, Ab, cb, h1, h2, h3, h4, h5⟩ := h
  exact ⟨Ac, cc, Ab, cb, blk_drewN h1 m, Kd.R_drewN h2 m, h3, Kd.C_drewN h4 m, h5⟩
theorem below_grown {w W W' : World} {H g : Nat} (h : Below H w W) (hH : H ≤ g) (hs : H ≤ W.heap.size) (hg : W.grownBy W' (some g)) : Below H w W' :=
  ⟨hg.os.trans h.os, hg.tape.trans h.tape, hg.output.trans h.output, Nat.le_trans h.size hg.size, fun k hk => (hg.block k (by omega) (by intro e; injection e with e; omega)).trans (h.block k hk)⟩
/-- Massey's state, just made. -/
theorem Stt.made {H : Nat} {W w17 w18 w20 : World} {v17 v18 : Value} {g : Nat} (h17 : Kd.R (Kd.int .u64) 22 w17 W.heap.size (fun _ => True) v17 ([1] : List Int)) (hb18 : Below w17.heap.size w17 w18) (h18 : Kd.R (Kd.int .u64) 22 w18 w17.heap.size (fun _ => True) v18 ([1] : List Int))
    (hH : H ≤ W.heap.size) (hH2 : H ≤ w17.heap.size) (hg : g = w18.heap.size) (hbox : w20.heap[g]? = some (.cells #[v17, v18, .int .i64 0, .int .u64 1, .int .i64 0] 55 (0, 0))) (hb20 : Below w18.heap.size w18 w20) : Stt H g w20 [1] [1] 0 1 0 := by
  obtain ⟨A17, c17, e17⟩ := Kd.R_slice h17
  obtain ⟨A18, c18, e18⟩ := Kd.R_slice h18
  subst e17 e18
  have q17 := Kd.R_bound (Kd.R_below (Kd.R_below h17 hb18) hb20)
  have k17 := Kd.R_bound (Kd.R_below h17 hb18)
  have k18 := Kd.R_bound h18
  have j17 : Kd.R (Kd.int .u64) 22 w20 W.heap.size (fun k => k ≠ g) (.slice A17 ([1] : List Int).length c17) ([1] : List Int) := by
    refine Kd.R_below (Kd.R_mono k17 (fun k hk => ?_)) hb20
    have := hk.2.2.1
    omega
  refine ⟨A17, c17, A18, c18, hbox, Kd.R_lower j17 hH, (Kd.R_reads' h18).2.1, (Kd.R_reads' (Kd.R_below h18 hb20)).2.2, fun ad e _ => ?_⟩
  have := (k18.1 ad.block (by rw [e]; simp [Value.ownBlock])).2.2.1
  omega
/-- The state, as far as the end looks at it. -/
def Stw (H g : Nat) (W : World) (c : List Int) (n : Int) : Prop :=
  ∃ Ac cc v1 v3 v4, W.heap[g]? = some (.cells #[.slice Ac c.length cc, v1, .int .i64 n, v3, v4] 55 (0, 0)) ∧ Kd.R (Kd.int .u64) 22 W H (fun k => k ≠ g) (.slice Ac c.length cc) c
theorem Stt.weak {H g : Nat} {W : World} {c b : List Int} {n left ago : Int} (h : Stt H g W c b n left ago) : Stw H g W c n := by
  obtain ⟨Ac, cc, Ab, cb, h1, h2, h3, h4, h5⟩ := h
  exact ⟨Ac, cc, _, _, _, h1, h2⟩
theorem Stw.drew {H g : Nat} {W : World} {c : List Int} {n : Int} (h : Stw H g W c n) : Stw H g W.drew c n := by
  obtain ⟨Ac, cc, v1, v3, v4, h1, h2⟩ := h
  exact ⟨Ac, cc, v1, v3, v4, blk_drew h1, Kd.R_drew h2⟩
theorem Stw.drewN {H g : Nat} {W : World} {c : List Int} {n : Int} (h : Stw H g W c n) (m : Nat) : Stw H g (W.drewN m) c n := by
  obtain ⟨Ac, cc, v1, v3, v4, h1, h2⟩ := h
  exact ⟨Ac, cc, v1, v3, v4, blk_drewN h1 m, Kd.R_drewN h2 m⟩
set_option maxHeartbeats 16000000 in
set_option maxRecDepth 100000 in
theorem rul.good (k : Nat) (a0 : Int) (A1 : Option Addr) (c1 : Nat) (l1 : List Int) (r1 : List Int) (r2 : Int) (w : World) (hr1 : Kd.C (Kd.int .u64) w A1 l1.length l1) (hc1 : l1.length ≤ c1) (h : field_Has.f k a0 l1 = some true) (hl : ¬ (l1.length : Int) > 256)
    (hq : rul.l0 k a0 l1 0 [1] [1] 0 1 0 = some (r1, r2)) : Calls Try.prog 25 #[.int .u64 a0, .slice A1 l1.length c1] w (RulPost w r1 r2) := by
  have HR1 := Aside0.mk hr1
  have A1_ := Aside0.mk h
  have H' := Aside0.mk hq
  have hl' : decide (256 < (l1.length : Int)) = false := decide_eq_false hl
  have HB0 := Aside0.mk (Below.refl w.heap.size w)
  have hblk1 : Aside0 (∀ ad, A1 = some ad → 0 < l1.length → ad.block < w.heap.size) := ⟨fun ad e hn => by subst e; exact Kd_C_lt hr1 hn⟩
  clear hr1 h hl hq
  unfold RulPost
  go_enter Try.func25, Try.ntmps25
  go_wp2_with (first | ((with_reducible refine gate_callee (f := 28) rfl ?_); refine goesL_ (some 11) rfl rfl Try.func28 (by kernel_rfl) rfl #[.int .u64 a0, .slice A1 l1.length c1] rfl (by (try simp only [List.map_toArray, List.map_cons, List.map_nil]); first | done | rfl) ?_; (with_reducible refine (field_Has.calls k a0 A1 c1 l1 true _ ?side1 hc1 A1_.out).mono ?_); (case side1 => repeat (first | exact HR1.out | (with_reducible refine Kd.C_alloc ?_ _) | (with_reducible refine Kd.C_drewN ?_ _) | (with_reducible refine Kd.C_drew ?_))); rintro e w7 ⟨rfl, m7, rfl⟩; refine ⟨_, rfl, ?_⟩) | ((with_reducible refine gate_dst (N := 17) rfl ?_); refine Kd.R_lit (Kd.int .u64) _ 22 ?hg (N := 17) ?hd (xs := ([1] : List Int)) (inner := [.int .u64 1]) (ok := fun _ => True) (okp := fun _ => True) ?hr ?hp (fun _ hk => hk) trivial (Below.refl _ _) (Nat.le_refl _) (by simp) ?_; (case hd => rfl); (case hg => rfl); (case hr => first | (go_simp; done) | (go_simp; rfl)); (case hp => exact (Reps.one (show Kd.M (Kd.int .u64) _ _ _ 1 [.int .u64 1] from rfl) (Reps.none _ _))); intro v17 w17 ho17 hb17 hg_ hnew_; clear hg_ hnew_; obtain ⟨A17, c17, e17⟩ := Kd.R_slice ho17; subst e17; have HV17 := Aside0.mk ho17; have HB17 := Aside0.mk (below_step (by repeat (first | (with_reducible first | exact HB0.out | apply below_alloc | apply pw_below_drewN | apply below_drew1) | exact HB0.out)) hb17); have HS17 := Aside0.mk (below_size (show Below w.heap.size w _ from by repeat (first | (with_reducible first | exact HB0.out | apply below_alloc | apply pw_below_drewN | apply below_drew1) | exact HB0.out))); clear ho17 hb17) | ((with_reducible refine gate_dst (N := 18) rfl ?_); refine Kd.R_lit (Kd.int .u64) _ 22 ?hg (N := 18) ?hd (xs := ([1] : List Int)) (inner := [.int .u64 1]) (ok := fun _ => True) (okp := fun _ => True) ?hr ?hp (fun _ hk => hk) trivial (Below.refl _ _) (Nat.le_refl _) (by simp) ?_; (case hd => rfl); (case hg => rfl); (case hr => first | (go_simp; done) | (go_simp; rfl)); (case hp => exact (Reps.one (show Kd.M (Kd.int .u64) _ _ _ 1 [.int .u64 1] from rfl) (Reps.none _ _))); intro v18 w18 ho18 hb18 hg_ hnew_; clear hg_ hnew_; obtain ⟨A18, c18, e18⟩ := Kd.R_slice ho18; subst e18; have HV18 := Aside0.mk ho18; have HB18 := Aside0.mk hb18; clear ho18 hb18) | ((with_reducible refine gate_dst (N := 20) rfl ?_); refine box_event ?hg (N := 20) ?hd (cs := #[.slice A17 ([1] : List Int).length c17, .slice A18 ([1] : List Int).length c18, .int .i64 0, .int .u64 1, .int .i64 0]) (t := 55) ?hr ?_; (case hd => rfl); (case hg => rfl); (case hr => first | (go_simp; done) | (go_simp; rfl)); intro g hg w20 hbox hb20; have HG := Aside0.mk hg; have HX := Aside0.mk hbox; have HB20 := Aside0.mk hb20; clear hg hbox hb20))
  have HSt := Aside0.mk (Stt.made (H := w.heap.size) HV17.out HB18.out HV18.out HS17.out (below_size HB17.out) HG.out HX.out HB20.out)
  have HB := Aside0.mk (below_step (below_step HB17.out HB18.out) HB20.out)
  have HgH : Aside0 (w.heap.size ≤ g) := ⟨by have h1 := HB17.out.size; have h2 := HB18.out.size; have h3 := HG.out; omega⟩
  clear HV17 HB17 HS17 HV18 HB18 HG HX HB20
  go_loopg [23] k (fun kq v23 w' => ∃ (i n left ago : Int) (c b : List Int), v23 = .int .i64 i ∧ Aside0 (rul.l0 kq a0 l1 i c b n left ago = some (r1, r2)) ∧ Aside0 (kq ≤ k) ∧ Aside0 (Stt w.heap.size g w' c b n left ago) ∧ Aside0 (Below w.heap.size w w'))
  case atStart => exact ⟨0, 0, 1, 0, [1], [1], (by first | rfl | (simp; done)), H', ⟨Nat.le_refl _⟩, ⟨by repeat (first | exact HSt.out | apply Stt.drew | apply Stt.drewN)⟩, ⟨by repeat (first | (with_reducible first | exact HB.out | apply below_alloc | apply pw_below_drewN | apply below_drew1) | exact HB.out)⟩⟩
  case round =>
    clear H' HSt HB
    obtain ⟨i, n, left, ago, c, b, rfl, HA, HK1, HSt, HB⟩ := hrel
    cases gk with
    | zero => exact absurd HA.out (by simp [rul.l0])
    | succ k1 =>
      have H := HA.out
      clear HA
      rw [rul.l0] at H
      by_cases c3 : i < (l1.length : Int)
      · rw [if_pos c3] at H
        have c3b0 : decide (i < (l1.length : Int)) = true := decide_eq_true c3
        clear c3
        obtain ⟨⟨ok, c', b', n', left', ago'⟩, hst, H⟩ := Option.bind_eq_some_iff.mp H
        have HT := Aside0.mk hst
        clear hst
        cases ok with
        | true =>
          have H' : Aside0 (rul.l0 k1 a0 l1 (wrap64 (i + 1)) c' b' n' left' ago' = some (r1, r2)) := ⟨H⟩
          clear H
          go_wp2_with (first | ((with_reducible refine gate_callee (f := 51) rfl ?_); refine goesL_ (some 30) rfl rfl Try.func51 (by kernel_rfl) rfl #[.pointer (some ⟨g, 0, none⟩), .int .u64 a0, .slice A1 l1.length c1, .int .i64 i] rfl (by (try simp only [List.map_toArray, List.map_cons, List.map_nil]); first | done | rfl) ?_; (with_reducible refine (stp.calls k1 w.heap.size g a0 A1 c1 l1 i c b n left ago true c' b' n' left' ago' _ ?hH ?hs hc1 ?hA ?hS HT.out).mono ?_); (case hS => repeat (first | exact HSt.out | apply Stt.drew | apply Stt.drewN)); (case hH => exact (below_size (by repeat (first | (with_reducible first | exact HB.out | apply below_alloc | apply pw_below_drewN | apply below_drew1) | exact HB.out)))); (case hs => exact Kd.C_below HR1.out (by repeat (first | (with_reducible first | exact HB.out | apply below_alloc | apply pw_below_drewN | apply below_drew1) | exact HB.out))); (case hA => exact (fun ad e hn => Nat.ne_of_lt (Nat.lt_of_lt_of_le (hblk1.out ad e hn) HgH.out))); rintro e w30 ⟨rfl, hS', hgr⟩; refine ⟨_, rfl, ?_⟩; have HSt' := Aside0.mk hS'; have HB' := Aside0.mk (below_grown (show Below w.heap.size w _ from by repeat (first | (with_reducible first | exact HB.out | apply below_alloc | apply pw_below_drewN | apply below_drew1) | exact HB.out)) HgH.out (below_size (show Below w.heap.size w _ from by repeat (first | (with_reducible first | exact HB.out | apply below_alloc | apply pw_below_drewN | apply below_drew1) | exact HB.out))) hgr); clear hS' hgr))
          go_roundg k1
          case measure => have := HK1.out; omega
          case rel => exact ⟨_, _, _, _, _, _, (by first | rfl | (simp; done) | (simp [*]; done)), H', ⟨by have := HK1.out; omega⟩, ⟨by repeat (first | exact HSt'.out | apply Stt.drew | apply Stt.drewN)⟩, ⟨by repeat (first | (with_reducible first | exact HB'.out | apply below_alloc | apply pw_below_drewN | apply below_drew1) | exact HB'.out)⟩⟩
        | false =>
          have H' : (some (([] : List Int), (5 : Int))) = some (r1, r2) := H
          clear H
          simp only [Option.some.injEq, Prod.mk.injEq] at H'
          obtain ⟨rfl, rfl⟩ := H'
          go_wp2_with (first | ((with_reducible refine gate_callee (f := 51) rfl ?_); refine goesL_ (some 30) rfl rfl Try.func51 (by kernel_rfl) rfl #[.pointer (some ⟨g, 0, none⟩), .int .u64 a0, .slice A1 l1.length c1, .int .i64 i] rfl (by (try simp only [List.map_toArray, List.map_cons, List.map_nil]); first | done | rfl) ?_; (with_reducible refine (stp.calls k1 w.heap.size g a0 A1 c1 l1 i c b n left ago false c' b' n' left' ago' _ ?hH ?hs hc1 ?hA ?hS HT.out).mono ?_); (case hS => repeat (first | exact HSt.out | apply Stt.drew | apply Stt.drewN)); (case hH => exact (below_size (by repeat (first | (with_reducible first | exact HB.out | apply below_alloc | apply pw_below_drewN | apply below_drew1) | exact HB.out)))); (case hs => exact Kd.C_below HR1.out (by repeat (first | (with_reducible first | exact HB.out | apply below_alloc | apply pw_below_drewN | apply below_drew1) | exact HB.out))); (case hA => exact (fun ad e hn => Nat.ne_of_lt (Nat.lt_of_lt_of_le (hblk1.out ad e hn) HgH.out))); rintro e w30 ⟨rfl, hS', hgr⟩; refine ⟨_, rfl, ?_⟩; have HB' := Aside0.mk (below_grown (show Below w.heap.size w _ from by repeat (first | (with_reducible first | exact HB.out | apply below_alloc | apply pw_below_drewN | apply below_drew1) | exact HB.out)) HgH.out (below_size (show Below w.heap.size w _ from by repeat (first | (with_reducible first | exact HB.out | apply below_alloc | apply pw_below_drewN | apply below_drew1) | exact HB.out))) hgr); clear hS' hgr))
          go_ret2
          exact ⟨_, rfl, V_of_C (xs := []) (Kd.C_nil _ _) (Nat.zero_le _) (fun h => absurd h (by simp)), by repeat (first | (with_reducible first | exact HB'.out | apply below_alloc | apply pw_below_drewN | apply below_drew1) | exact HB'.out)⟩
      · rw [if_neg c3] at H
        have c3b0 : decide (i < (l1.length : Int)) = false := decide_eq_false c3
        clear c3
        have H' := Aside0.mk H
        clear H
        go_wp2
        go_loopg [] k1 (fun kq w' => ∃ (c : List Int), Aside0 (rul.l1 kq c n = some (r1, r2)) ∧ Aside0 (kq ≤ k1) ∧ Aside0 (Stw w.heap.size g w' c n) ∧ Aside0 (Below w.heap.size w w'))
        case atStart => exact ⟨c, H', ⟨Nat.le_refl _⟩, ⟨by repeat (first | exact HSt.out.weak | apply Stw.drew | apply Stw.drewN)⟩, ⟨by repeat (first | (with_reducible first | exact HB.out | apply below_alloc | apply pw_below_drewN | apply below_drew1) | exact HB.out)⟩⟩
        case round =>
          clear H' HSt HB c
          obtain ⟨c, HA, HK2, HSt, HB⟩ := hrel
          cases gk with
          | zero => exact absurd HA.out (by simp [rul.l1])
          | succ k2 =>
            have H := HA.out
            clear HA
            rw [rul.l1] at H
            obtain ⟨Ac, cc, v1, v3, v4, hblk, hrc⟩ := HSt.out
            have HBK0 := Aside0.mk hblk
            have HRC0 := Aside0.mk hrc
            have p0 := (blk_cell hblk 0).trans rfl
            have p2 := (blk_cell hblk 2).trans rfl
            clear hblk hrc
            by_cases c8 : (c.length : Int) < wrap64 (n + 1)
            · rw [if_pos c8] at H
              have c8b0 : decide ((c.length : Int) < wrap64 (n + 1)) = true := decide_eq_true c8
              have c8c : ¬ (wrap64 (n + 1) ≤ (c.length : Int)) := by omega
              clear c8
              by_cases c9 : c.length < 17592186044416
              · rw [if_pos c9] at H
                have LM := Aside0.mk c9
                have H' := Aside0.mk H
                clear c9 H
                go_wp2
                refine rl_len _ _ g c n Ac cc p0 p2 ?_
                intro wd hwd
                have HBK := Aside0.mk (blk_drew HBK0.out)
                have HRC := Aside0.mk (Kd.R_drew HRC0.out)
                have HBd := Aside0.mk (below_drew1 HB.out)
                rw [← hwd] at HBK HRC HBd
                clear hwd p0 p2 HBK0 HRC0 HB
                have q0 := (blk_cell HBK.out 0).trans rfl
                have q2 := (blk_cell HBK.out 2).trans rfl
                have f0 := blk_frozen HBK.out 0
                have HB := HBd
                clear HBd
                go_wp2_with (first | ((with_reducible refine gate_builtin (b := .append) (xs := #[.tmp 48, .tmp 49]) rfl ?_); at_builtin; refine Kd.R_append (Kd.int .u64) (w0 := w) w.heap.size rfl (.tmp 48) (.tmp 49) 23 22 (.int .u64 0) 8 rfl Try.underlying23 info22 rfl (by decide) (by omega) (.slice Ac c.length cc) c 0 [.int .u64 0] (fun k => k ≠ g) (fun _ => False) rfl rfl ?aP (fun _ hk => hk.elim) ?aF ?aO ?aB ?aS ?aL ?_; (case aP => exact rfl); (case aB => exact (by repeat (first | (with_reducible first | exact HB.out | apply below_alloc | apply pw_below_drewN | apply below_drew1) | exact HB.out))); (case aF => exact (fun k hk => by have := blk_lt HBK.out; omega)); (case aO => exact HRC.out); (case aS => exact (below_size (by repeat (first | (with_reducible first | exact HB.out | apply below_alloc | apply pw_below_drewN | apply below_drew1) | exact HB.out)))); (case aL => have := LM.out; omega); intro v50 w50 ho hb hgw hat; obtain ⟨A50, c50, e50⟩ := Kd.R_slice ho; subst e50; have HR5 := Aside0.mk ho; have HB5 := Aside0.mk hb; have HK5 := Aside0.mk (blk_grown HBK.out hgw (fun e => HRC.out.1 g e.symm rfl)); have f5 := blk_frozen HK5.out 0; have p5 := (blk_cell HK5.out 0).trans rfl; clear ho hb hgw hat) | ((with_reducible refine gate_store (t := 23) (p := 52) rfl ?_); refine store_event (t := 23) (p := 52) (v := (.tmp 50)) (w1 := (w50.setCell ⟨g, 0, none⟩ (.slice A50 (c ++ [0]).length c50))) ?hg ?ho ?hn ?hr ?_; (case ho => rfl); (case hg => rfl); (case hn => rfl); (case hr => first | (go_simp; done) | (go_simp; rfl)); intro w51 hw; have HSt5 : Aside0 (Stw w.heap.size g w51 (c ++ [0]) n) := ⟨⟨A50, c50, v1, v3, v4, by rw [hw]; exact (blk_set HK5.out 0 _).trans rfl, by rw [hw]; exact Kd.R_far HR5.out (fun _ h => h) _⟩⟩; have HB6 : Aside0 (Below w.heap.size w w51) := ⟨by rw [hw]; exact below_grown HB5.out HgH.out (below_size HB5.out) (grown_set (grown_refl w50 (some g)) 0 _)⟩; clear hw))
                go_roundg k2
                case measure => have := HK2.out; omega
                case rel => exact ⟨_, H', ⟨by have := HK2.out; omega⟩, ⟨by repeat (first | exact HSt5.out | apply Stw.drew | apply Stw.drewN)⟩, ⟨by repeat (first | (with_reducible first | exact HB6.out | apply below_alloc | apply pw_below_drewN | apply below_drew1) | exact HB6.out)⟩⟩
              · rw [if_neg c9] at H
                exact absurd H (by simp)
            · rw [if_neg c8] at H
              have c8b0 : decide ((c.length : Int) < wrap64 (n + 1)) = false := decide_eq_false c8
              by_cases c9 : 0 ≤ wrap64 (n + 1)
              · rw [if_pos c9] at H
                simp only [Option.some.injEq, Prod.mk.injEq] at H
                obtain ⟨rfl, rfl⟩ := H
                obtain ⟨i010, hi010, _, hsz10, _⟩ := info_parts info22
                have hle : (wrap64 (n + 1)).toNat ≤ c.length := by omega
                have hcut := cut_to (P := Try.prog) 23 22 .i64 Try.underlying23 hi010 Ac c.length cc (wrap64 (n + 1)) c9 (by omega) (Kd.R_reads' HRC0.out).2.1
                have hlen : (wrap64 (n + 1)).toNat = (c.take (wrap64 (n + 1)).toNat).length := by rw [List.length_take]; omega
                rw [hlen] at hcut
                have c8c : wrap64 (n + 1) ≤ (c.length : Int) := by omega
                clear c8
                go_wp2
                refine rl_len _ _ g c n Ac cc p0 p2 ?_
                intro wd hwd
                have HBK := Aside0.mk (blk_drew HBK0.out)
                have HRC := Aside0.mk (Kd.R_drew HRC0.out)
                have HBd := Aside0.mk (below_drew1 HB.out)
                rw [← hwd] at HBK HRC HBd
                clear hwd p0 p2 HBK0 HRC0 HB
                have q0 := (blk_cell HBK.out 0).trans rfl
                have q2 := (blk_cell HBK.out 2).trans rfl
                have f0 := blk_frozen HBK.out 0
                have HB := HBd
                clear HBd
                go_wp2
                all_goals
                  refine rl_end _ _ g c n Ac cc _ hcut q0 q2 ?_
                  intro we hwe
                  subst hwe
                  go_wp2
                  go_ret2
                  exact ⟨_, rfl, V_of_C (by repeat (first | exact Kd.C_take (Kd.R_reads' HRC.out).2.2 hle | (with_reducible refine Kd.C_drewN ?_ _) | (with_reducible refine Kd.C_drew ?_))) (Nat.le_trans (by rw [List.length_take]; omega) (Kd.R_reads' HRC.out).2.1) (fun _ ad e => ((Kd.R_bound HRC.out).1 ad.block (by rw [e]; simp [Value.ownBlock])).2.1), by repeat (first | (with_reducible first | exact HB.out | apply below_alloc | apply pw_below_drewN | apply below_drew1) | exact HB.out)⟩
              · rw [if_neg c9] at H
                exact absurd H (by simp)
theorem rul.calls (k : Nat) (a0 : Int) (A1 : Option Addr) (c1 : Nat) (l1 : List Int) (r1 : List Int) (r2 : Int) (w : World) (hr1 : Kd.C (Kd.int .u64) w A1 l1.length l1) (hc1 : l1.length ≤ c1) (h : rul.f k a0 l1 = some (r1, r2)) :
    Calls Try.prog 25 #[.int .u64 a0, .slice A1 l1.length c1] w (RulPost w r1 r2) := by
  obtain ⟨t, ht, h⟩ := Option.bind_eq_some_iff.mp h
  cases t with
  | false =>
    rw [if_neg (by simp)] at h
    simp only [Option.some.injEq, Prod.mk.injEq] at h
    obtain ⟨rfl, rfl⟩ := h
    exact rul.bad1 k a0 A1 c1 l1 w hr1 hc1 ht
  | true =>
    rw [if_pos rfl] at h
    by_cases hl : (l1.length : Int) > 256
    · rw [if_pos hl] at h
      simp only [Option.some.injEq, Prod.mk.injEq] at h
      obtain ⟨rfl, rfl⟩ := h
      exact rul.bad2 k a0 A1 c1 l1 w hr1 hc1 ht hl
    · rw [if_neg hl] at h
      exact rul.good k a0 A1 c1 l1 r1 r2 w hr1 hc1 ht hl h
end Go.Proofs.Ytffcjgelcdilcaa.Sr

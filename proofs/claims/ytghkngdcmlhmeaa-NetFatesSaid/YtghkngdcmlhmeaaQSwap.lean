/- The pile of letters (chapter 20): two letters change places. -/
import Derived.Test.YtghkngdcmlhmeaaHp
import Derived.Test.YtghkngdcmlhmeaaQOrd
import Derived.Test.YtghkngdcmlhmeaaPQux4
import Derived.Test.YtghkngdcmlhmeaaPQux2
set_option linter.unusedVariables false
set_option linter.unusedSimpArgs false
set_option linter.unusedSectionVars false
namespace Go.Proofs.Ytghkngdcmlhmeaa.Qp
open Go.RowKit Go.Proofs Go.Proofs.Ytghkngdcmlhmeaa.PQu Go.Proofs.YtghkngdcmlhmeaaW.PrintWords Go.Proofs.YtghkngdcmlhmeaaW.PrintLast Go.Proofs.YtghkngdcmlhmeaaW.PrintMore
def sw_T : Bool × List (List Nat × List Nat) := (true, [([], []), ([], []), ([], []), ([], []), ([], []), ([], []), ([4, 5], [4, 5]), ([6], [6]), ([], []), ([], []), ([8, 9], [8, 9]), ([10], [10]), ([0, 1, 0, 1, 4, 5, 6, 7, 11], [0, 1]), ([12, 7, 0, 1, 4, 5, 6, 7, 11], [7, 12]), ([2, 3, 0, 1, 2, 3, 4, 5, 6, 7, 8, 9, 10, 11, 12, 13], [2, 3]), ([14, 11, 13, 0, 1, 2, 3, 4, 5, 6, 7, 8, 9, 10, 11, 12, 13], [11, 14])])
def sw_B : List Nat := [0, 0, 0, 0, 0, 0, 48, 112, 0, 0, 768, 1792, 4083, 8179, 16383, 32767]
theorem sw_tab : rtab .any (opsOf Try.f78 0) = sw_T := by kernel_rfl
theorem sw_bits : waitsOk sw_T.2 sw_B = true := by kernel_rfl
theorem run_store {P : Program} {ev : Operand → Value} {o : Oper} {W W1 : World} {t : TypeId} {p x : Operand} {pv xv : Value} (h : (Instr.storeAt t pv xv).run P W = .ok () W1) (ho : o.op = .store t p x) (hp : ev p = pv) (hx : ev x = xv) : (execOp ev o).run P W = .ok .skip W1 := by
  unfold execOp
  simp only [ho, hp, hx, Sem.run_bind, Sem.run_pure, Result.andThen_ok, h]
section
variable {α : Type} {d : Kd α} {e base n cap g : Nat} {ok : Nat → Prop} {W : World} {xs : List α}
/-- The store of an element: what it makes of the world. -/
theorem N_run {P : Program} (h : Kd.N d e W base ok (.slice (some ⟨g, 0, none⟩) n cap) xs) (i : Nat) (h1 : i < n) {t : TypeId} {u : Value} {seg : List Value} (hu : u.cells.toList = seg) (ht : (P.info? t).map (·.size) = some seg.length) (hsz : seg.length = d.sz) (hone : ∀ q ∈ seg, q.oneCell' = true) :
    (Instr.storeAt t (.pointer (some ⟨g, i * d.sz, none⟩)) u).run P W = .ok () (W.setCells g (i * d.sz) seg) := by
  obtain ⟨_, rows, hl, hR, _⟩ := h
  have hn := (Kd.R_reads' hR).1
  obtain ⟨_, inner, hown, _⟩ := hR
  rcases hown.2 with ⟨hv, _⟩ | ⟨g', cap', cur, hv, hb, hh, hnc, hcm, hcs, _⟩
  · cases hv
  injection hv with ha _ hc
  injection ha with ha
  injection ha with hg'
  subst hg'; subst hc
  refine run_store_run t u seg hh hu ht ?_ hone
  have h2 : i * d.sz + d.sz ≤ n * d.sz := by rw [← Nat.succ_mul]; exact Nat.mul_le_mul_right _ h1
  have h3 : n * d.sz ≤ cap * d.sz := Nat.mul_le_mul_right _ (by omega)
  have h4 : (Kd.raw d.sz).sz = d.sz := rfl
  rw [h4] at hcs
  omega
/-- .. and of the row. -/
theorem N_put {okp : Nat → Prop} (h : Kd.N d e W base ok (.slice (some ⟨g, 0, none⟩) n cap) xs) (i : Nat) (h1 : i < n) (z : α) {seg : List Value} (hsz : seg.length = d.sz) {x' : α} (hM : Kd.FK d W okp x' seg) (hokp : ∀ k, okp k → ok k ∧ k ≠ g) :
    Kd.N d e (W.setCells g (i * d.sz) seg) base ok (.slice (some ⟨g, 0, none⟩) n cap) (xs.set i x') ∧ W.grownBy (W.setCells g (i * d.sz) seg) (some g) := by
  obtain ⟨c, hcl, _, hcc, _⟩ := Kd.N_elem h z (i : Int) (by omega) (by omega)
  have := Kd.N_seg h (i : Int) (by omega) (by omega) (c := c) (seg := seg) (j := 0) hcl hcc (by omega) (x' := x') (okp := okp) (by rw [List.take_zero, List.nil_append, Nat.zero_add, List.drop_eq_nil_of_le (by omega), List.append_nil]; exact hM) hokp
  simpa using this
end
set_option maxHeartbeats 8000000 in
set_option maxRecDepth 100000 in
theorem sw_reg (W : World) (g i k cap : Nat) (l : List S25) (x y : S25) (hi : i < l.length) (hk : k < l.length) (Ai Ak : Option Addr) (ci ck : Nat)
    (hI : ∀ j u, ([.int .i64 x.f0, .int .i64 x.f1, .int .i64 x.f2, .slice Ai x.f3.length ci] : List Value)[j]? = some u → W.cell? ⟨g, i * 4 + j, none⟩ = some u) (hK : ∀ j u, ([.int .i64 y.f0, .int .i64 y.f1, .int .i64 y.f2, .slice Ak y.f3.length ck] : List Value)[j]? = some u → W.cell? ⟨g, k * 4 + j, none⟩ = some u)
    (hs1 : (Instr.storeAt 25 (.pointer (some ⟨g, i * 4, none⟩)) (.agg #[.int .i64 y.f0, .int .i64 y.f1, .int .i64 y.f2, .slice Ak y.f3.length ck])).run Try.prog W.drew = .ok () (W.drew.setCells g (i * 4) ([.int .i64 y.f0, .int .i64 y.f1, .int .i64 y.f2, .slice Ak y.f3.length ck])))
    (hs2 : (Instr.storeAt 25 (.pointer (some ⟨g, k * 4, none⟩)) (.agg #[.int .i64 x.f0, .int .i64 x.f1, .int .i64 x.f2, .slice Ai x.f3.length ci])).run Try.prog (W.drew.setCells g (i * 4) ([.int .i64 y.f0, .int .i64 y.f1, .int .i64 y.f2, .slice Ak y.f3.length ck])) = .ok () ((W.drew.setCells g (i * 4) ([.int .i64 y.f0, .int .i64 y.f1, .int .i64 y.f2, .slice Ak y.f3.length ck])).setCells g (k * 4) ([.int .i64 x.f0, .int .i64 x.f1, .int .i64 x.f2, .slice Ai x.f3.length ci]))) :
    Calls Try.prog 78 #[.slice (some ⟨g, 0, none⟩) l.length cap, .int .i64 (i : Int), .int .i64 (k : Int)] W fun e w' => e = .returned (.tuple #[]) ∧ w' = ((W.drew.setCells g (i * 4) ([.int .i64 y.f0, .int .i64 y.f1, .int .i64 y.f2, .slice Ak y.f3.length ck])).setCells g (k * 4) ([.int .i64 x.f0, .int .i64 x.f1, .int .i64 x.f2, .slice Ai x.f3.length ci])) := by
  have hu25 := Try.underlying25
  have ai : (⟨g, 0, none⟩ : Addr).add (i * 4) = ⟨g, i * 4, none⟩ := add_plain g _
  have ak : (⟨g, 0, none⟩ : Addr).add (k * 4) = ⟨g, k * 4, none⟩ := add_plain g _
  have bi : decide ((i : Int) < (l.length : Int)) = true := decide_eq_true (by omega)
  have bk : decide ((k : Int) < (l.length : Int)) = true := decide_eq_true (by omega)
  have bi1 : (i : Int) < (l.length : Int) := by omega
  have bk1 : (k : Int) < (l.length : Int) := by omega
  have hi0 : W.drew.cell? ⟨g, i * 4, none⟩ = some (.int .i64 x.f0) := hI 0 _ rfl
  have hi1 : W.drew.cell? ⟨g, i * 4 + 1, none⟩ = some (.int .i64 x.f1) := hI 1 _ rfl
  have hi2 : W.drew.cell? ⟨g, i * 4 + 2, none⟩ = some (.int .i64 x.f2) := hI 2 _ rfl
  have hi3 : W.drew.cell? ⟨g, i * 4 + 3, none⟩ = some (.slice Ai x.f3.length ci) := hI 3 _ rfl
  have hk0 : W.drew.cell? ⟨g, k * 4, none⟩ = some (.int .i64 y.f0) := hK 0 _ rfl
  have hk1 : W.drew.cell? ⟨g, k * 4 + 1, none⟩ = some (.int .i64 y.f1) := hK 1 _ rfl
  have hk2 : W.drew.cell? ⟨g, k * 4 + 2, none⟩ = some (.int .i64 y.f2) := hK 2 _ rfl
  have hk3 : W.drew.cell? ⟨g, k * 4 + 3, none⟩ = some (.slice Ak y.f3.length ck) := hK 3 _ rfl
  have HS := Aside0.mk (And.intro hs1 hs2)
  clear hI hK hs1 hs2
  go_enter Try.func78, Try.ntmps78
  refine start_ (n := 16) (S := fun w' => w'.cell? ⟨g, i * 4, none⟩ = some (.int .i64 x.f0) ∧ w'.cell? ⟨g, i * 4 + 1, none⟩ = some (.int .i64 x.f1) ∧ w'.cell? ⟨g, i * 4 + 2, none⟩ = some (.int .i64 x.f2) ∧ w'.cell? ⟨g, i * 4 + 3, none⟩ = some (.slice Ai x.f3.length ci) ∧ w'.cell? ⟨g, k * 4, none⟩ = some (.int .i64 y.f0) ∧ w'.cell? ⟨g, k * 4 + 1, none⟩ = some (.int .i64 y.f1) ∧ w'.cell? ⟨g, k * 4 + 2, none⟩ = some (.int .i64 y.f2) ∧ w'.cell? ⟨g, k * 4 + 3, none⟩ = some (.slice Ak y.f3.length ck)) (ds := [13, 15]) #[false, false, false, false, false, false, false, false, false, false, false, false, false, false, false, false] (by kernel_rfl) rfl rfl ⟨hi0, hi1, hi2, hi3, hk0, hk1, hk2, hk3⟩ (fun hHeld => ?_)
  refine with_tabW sw_tab sw_bits (fun HT_ HW_ => ?_)
  refine pure_ (i := 0) (N := some 6) (v := ?_) (a' := ?_) #[true, false, false, false, false, false, false, false, false, false, false, false, false, false, false, false] rfl rfl (any_of HT_.out (by kernel_rfl)) (fun _ _ _ h => by first | exact h | cases h.1) (Or.inl ⟨by rfl, ?_⟩) ?_ ?_
  rotate_left
  · intro w'
    go_simp
    with_reducible rfl
  rotate_left
  · simp only [Act.put, List.setIfInBounds_toArray, List.set_cons_zero, List.set_cons_succ]
    rfl
  refine pure_ (i := 1) (N := some 7) (v := ?_) (a' := ?_) #[true, true, false, false, false, false, false, false, false, false, false, false, false, false, false, false] rfl rfl (any_of HT_.out (by kernel_rfl)) (fun _ _ _ h => by first | exact h | cases h.1) (Or.inl ⟨by rfl, ?_⟩) ?_ ?_
  rotate_left
  · intro w'
    go_simp
    with_reducible rfl
  rotate_left
  · simp only [Act.put, List.setIfInBounds_toArray, List.set_cons_zero, List.set_cons_succ]
    rfl
  refine pure_ (i := 2) (N := some 8) (v := ?_) (a' := ?_) #[true, true, true, false, false, false, false, false, false, false, false, false, false, false, false, false] rfl rfl (any_of HT_.out (by kernel_rfl)) (fun _ _ _ h => by first | exact h | cases h.1) (Or.inl ⟨by rfl, ?_⟩) ?_ ?_
  rotate_left
  · intro w'
    go_simp
    with_reducible rfl
  rotate_left
  · simp only [Act.put, List.setIfInBounds_toArray, List.set_cons_zero, List.set_cons_succ]
    rfl
  refine pure_ (i := 3) (N := some 9) (v := ?_) (a' := ?_) #[true, true, true, true, false, false, false, false, false, false, false, false, false, false, false, false] rfl rfl (any_of HT_.out (by kernel_rfl)) (fun _ _ _ h => by first | exact h | cases h.1) (Or.inl ⟨by rfl, ?_⟩) ?_ ?_
  rotate_left
  · intro w'
    go_simp
    with_reducible rfl
  rotate_left
  · simp only [Act.put, List.setIfInBounds_toArray, List.set_cons_zero, List.set_cons_succ]
    rfl
  refine pure_ (i := 4) (N := some 10) (v := ?_) (a' := ?_) #[true, true, true, true, true, false, false, false, false, false, false, false, false, false, false, false] rfl rfl (any_of HT_.out (by kernel_rfl)) (fun _ _ _ h => by first | exact h | cases h.1) (Or.inl ⟨by rfl, ?_⟩) ?_ ?_
  rotate_left
  · intro w'
    go_simp
    with_reducible rfl
  rotate_left
  · simp only [Act.put, List.setIfInBounds_toArray, List.set_cons_zero, List.set_cons_succ]
    rfl
  refine pure_ (i := 5) (N := some 11) (v := ?_) (a' := ?_) #[true, true, true, true, true, true, false, false, false, false, false, false, false, false, false, false] rfl rfl (any_of HT_.out (by kernel_rfl)) (fun _ _ _ h => by first | exact h | cases h.1) (Or.inl ⟨by rfl, ?_⟩) ?_ ?_
  rotate_left
  · intro w'
    go_simp
    with_reducible rfl
  rotate_left
  · simp only [Act.put, List.setIfInBounds_toArray, List.set_cons_zero, List.set_cons_succ]
    rfl
  refine pure_ (i := 6) (N := some 12) (v := .pointer (some ⟨g, k * 4, none⟩)) (a' := ?_) #[true, true, true, true, true, true, true, false, false, false, false, false, false, false, false, false] rfl rfl (any_of HT_.out (by kernel_rfl)) (fun _ _ _ h => by first | exact h | cases h.1) (Or.inl ⟨by rfl, ?_⟩) ?_ ?_
  · intro w'
    go_simp
    first | done | (with_reducible rfl) | (simp only [Int.toNat_natCast, ai, ak]; done) | (rw [ai]) | (rw [ak]) | rfl
  rotate_left
  · simp only [Act.put, List.setIfInBounds_toArray, List.set_cons_zero, List.set_cons_succ]
    rfl
  refine take_ (i := 7) (N := some 13) (v := ?_) (a' := ?_) #[true, true, true, true, true, true, true, true, false, false, false, false, false, false, false, false] rfl rfl (take_ofW HT_.out HW_.out (by kernel_rfl)) (fun _ _ _ h => by first | exact h | cases h.1) (Or.inl ⟨by rfl, ?_⟩) hHeld ?_ ?_
  rotate_left
  · rintro w' ⟨s0, s1, s2, s3, s4, s5, s6, s7⟩
    go_simp
    with_reducible rfl
  rotate_left
  · simp only [Act.put, List.setIfInBounds_toArray, List.set_cons_zero, List.set_cons_succ]
    rfl
  refine pure_ (i := 8) (N := some 14) (v := ?_) (a' := ?_) #[true, true, true, true, true, true, true, true, true, false, false, false, false, false, false, false] rfl rfl (any_of HT_.out (by kernel_rfl)) (fun _ _ _ h => by first | exact h | cases h.1) (Or.inl ⟨by rfl, ?_⟩) ?_ ?_
  rotate_left
  · intro w'
    go_simp
    with_reducible rfl
  rotate_left
  · simp only [Act.put, List.setIfInBounds_toArray, List.set_cons_zero, List.set_cons_succ]
    rfl
  refine pure_ (i := 9) (N := some 15) (v := ?_) (a' := ?_) #[true, true, true, true, true, true, true, true, true, true, false, false, false, false, false, false] rfl rfl (any_of HT_.out (by kernel_rfl)) (fun _ _ _ h => by first | exact h | cases h.1) (Or.inl ⟨by rfl, ?_⟩) ?_ ?_
  rotate_left
  · intro w'
    go_simp
    with_reducible rfl
  rotate_left
  · simp only [Act.put, List.setIfInBounds_toArray, List.set_cons_zero, List.set_cons_succ]
    rfl
  refine pure_ (i := 10) (N := some 16) (v := .pointer (some ⟨g, i * 4, none⟩)) (a' := ?_) #[true, true, true, true, true, true, true, true, true, true, true, false, false, false, false, false] rfl rfl (any_of HT_.out (by kernel_rfl)) (fun _ _ _ h => by first | exact h | cases h.1) (Or.inl ⟨by rfl, ?_⟩) ?_ ?_
  · intro w'
    go_simp
    first | done | (with_reducible rfl) | (simp only [Int.toNat_natCast, ai, ak]; done) | (rw [ai]) | (rw [ak]) | rfl
  rotate_left
  · simp only [Act.put, List.setIfInBounds_toArray, List.set_cons_zero, List.set_cons_succ]
    rfl
  refine take_ (i := 11) (N := some 17) (v := ?_) (a' := ?_) #[true, true, true, true, true, true, true, true, true, true, true, true, false, false, false, false] rfl rfl (take_ofW HT_.out HW_.out (by kernel_rfl)) (fun _ _ _ h => by first | exact h | cases h.1) (Or.inl ⟨by rfl, ?_⟩) hHeld ?_ ?_
  rotate_left
  · rintro w' ⟨s0, s1, s2, s3, s4, s5, s6, s7⟩
    go_simp
    with_reducible rfl
  rotate_left
  · simp only [Act.put, List.setIfInBounds_toArray, List.set_cons_zero, List.set_cons_succ]
    rfl
  refine pure_ (i := 12) (N := some 18) (v := .pointer (some ⟨g, i * 4, none⟩)) (a' := ?_) #[true, true, true, true, true, true, true, true, true, true, true, true, true, false, false, false] rfl rfl (any_of HT_.out (by kernel_rfl)) (fun _ _ _ h => by first | exact h | cases h.1) (Or.inl ⟨by rfl, ?_⟩) ?_ ?_
  · intro w'
    go_simp
    first | done | (with_reducible rfl) | (simp only [Int.toNat_natCast, ai, ak]; done) | (rw [ai]) | (rw [ak]) | rfl
  rotate_left
  · simp only [Act.put, List.setIfInBounds_toArray, List.set_cons_zero, List.set_cons_succ]
    rfl
  refine last_ (i := 13) (N := none) #[true, true, true, true, true, true, true, true, true, true, true, true, true, true, false, false] rfl rfl (one_of HT_.out (by kernel_rfl)) (by decide) (fun K hK => ?_)
  refine skip_ (w1 := (W.drew.setCells g (i * 4) ([.int .i64 y.f0, .int .i64 y.f1, .int .i64 y.f2, .slice Ak y.f3.length ck]))) (by rfl) rfl ?_ ?_
  · exact run_store (HS.out.1) (by rfl) (by rfl) (by rfl)
  refine hK.out _ _ ?_
  clear hK K
  refine pure_ (i := 14) (N := some 19) (v := .pointer (some ⟨g, k * 4, none⟩)) (a' := ?_) #[true, true, true, true, true, true, true, true, true, true, true, true, true, true, true, false] rfl rfl (any_of HT_.out (by kernel_rfl)) (fun _ _ _ h => by first | exact h | cases h.1) (Or.inl ⟨by rfl, ?_⟩) ?_ ?_
  · intro w'
    go_simp
    first | done | (with_reducible rfl) | (simp only [Int.toNat_natCast, ai, ak]; done) | (rw [ai]) | (rw [ak]) | rfl
  rotate_left
  · simp only [Act.put, List.setIfInBounds_toArray, List.set_cons_zero, List.set_cons_succ]
    rfl
  refine last_ (i := 15) (N := none) #[true, true, true, true, true, true, true, true, true, true, true, true, true, true, true, true] rfl rfl (one_of HT_.out (by kernel_rfl)) (by decide) (fun K hK => ?_)
  refine skip_ (w1 := ((W.drew.setCells g (i * 4) ([.int .i64 y.f0, .int .i64 y.f1, .int .i64 y.f2, .slice Ak y.f3.length ck])).setCells g (k * 4) ([.int .i64 x.f0, .int .i64 x.f1, .int .i64 x.f2, .slice Ai x.f3.length ci]))) (by rfl) rfl ?_ ?_
  · exact run_store (HS.out.2) (by rfl) (by rfl) (by rfl)
  refine hK.out _ _ ?_
  clear hK K
  refine done_ (done_of HT_.out (by kernel_rfl)) ?_
  go_end0
  exact ⟨rfl, rfl⟩
end Go.Proofs.Ytghkngdcmlhmeaa.Qp

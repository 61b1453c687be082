/- poly.Eval: one step of Horner's rule (the body of the range over the numbers). poly.Eval: the walk: what the call tells is Horner's rule. -/
import Derived.Test.YtffcjgelcdilcaaBack
import Derived.Test.YtffcjgelcdilcaaPAllx3
import Derived.Test.YtffcjgelcdilcaaPAllx1
set_option linter.unusedSectionVars false
namespace Go.Proofs.Ytffcjgelcdilcaa.Rf
open Go.RowKit Go.Shelf Go.Proofs Go.Proofs.Ytffcjgelcdilcaa.PAll Go.Proofs.YtffcjgelcdilcaaW.PrintWords Go.Proofs.YtffcjgelcdilcaaW.PrintLast Go.Proofs.YtffcjgelcdilcaaW.PrintMore Go.Proofs.Ytffcjgelcdilcaa.Rd
attribute [local go_sem] Oper.semAt_some

def ev_T6 : Bool × List (List Nat × List Nat) := (true, [([], []), ([], []), ([], []), ([], []), ([1, 2, 3], [1, 2, 3]), ([], []), ([0, 4, 5, 4], [0, 4, 5]), ([6, 6, 0, 1, 2, 3, 4, 5, 6], [6])])
def ev_B6 : List Nat := [0, 0, 0, 0, 14, 0, 63, 127]
theorem ev_tab6 : rtab .any (opsOf Try.f37 6) = ev_T6 := by kernel_rfl
theorem ev_bits6 : waitsOk ev_T6.2 ev_B6 = true := by kernel_rfl
set_option maxHeartbeats 8000000 in
set_option maxRecDepth 100000 in
theorem ev_round (p : Int) (l mm : Nat) (Q : Exit → Act → World → Prop) (W : World) (Xb Rb Ob : Nat) (x o y v1 v2 : Int) {u0 u1 u2 u3 u4 u6 u7 u10 u12 u13 u14 u15 u16 u17 u18 u19 u20 u21 u22 u23 u24 u25 u26 u27 u28 u29 u30 u31 u32 u33 u34 u35 : Value}
    (hx : W.cell? ⟨Xb, 0, none⟩ = some (.int .u64 x)) (hr : W.cell? ⟨Rb, 0, none⟩ = some (.int .u64 p)) (ho : W.cell? ⟨Ob, 0, none⟩ = some (.int .u64 o)) (hfo : W.frozen? ⟨Ob, 0, none⟩ = false)
    (h1 : ∀ W, Calls Try.prog 66 #[.int .u64 p, .int .u64 o, .int .u64 x] W fun e w' => e = .returned (.int .u64 v1) ∧ Below W.heap.size W w')
    (h2 : ∀ W, Calls Try.prog 65 #[.int .u64 p, .int .u64 v1, .int .u64 y] W fun e w' => e = .returned (.int .u64 v2) ∧ Below W.heap.size W w')
    (hQo : ¬ LetsOut Q) (hQp : ∀ c a a' w, Q (.panic c) a w → Q (.panic c) a' w)
    (hQ : ∀ a' w2, Below W.heap.size W w2 → Q .normal a' (w2.setCell ⟨Ob, 0, none⟩ (.int .u64 v2))) :
    (Code.region 6 (opsOf Try.f37 6) true).wpIn (Fence.wide.inRound l) mm Try.prog Q
      { tmps := #[u0, u1, u2, u3, u4, .pointer (some ⟨Xb, 0, none⟩), u6, u7, .pointer (some ⟨Rb, 0, none⟩), .pointer (some ⟨Ob, 0, none⟩), u10, .int .u64 y, u12, u13, u14, u15, u16, u17, u18, u19, u20, u21, u22, u23, u24, u25, u26, u27, u28, u29, u30, u31, u32, u33, u34, u35], defers := [] } W := by
  simp only [opsOf, Try.f37, opsIn, Option.bind_some, Option.bind, Option.getD, beq_iff_eq, if_true, if_false, Nat.reduceBEq, Bool.false_eq_true, Nat.reduceEqDiff]
  have HQ := Aside0.mk hQ
  have HC := Aside0.mk (And.intro h1 h2)
  clear hQ h1 h2
  refine startR_ (n := 8) (S := fun w' => w'.cell? ⟨Xb, 0, none⟩ = some (.int .u64 x) ∧ w'.cell? ⟨Rb, 0, none⟩ = some (.int .u64 p) ∧ w'.cell? ⟨Ob, 0, none⟩ = some (.int .u64 o)) (ds := [7]) #[false, false, false, false, false, false, false, false] (by kernel_rfl) (by kernel_rfl) hQo rfl rfl ⟨hx, hr, ho⟩ (fun hHeld => ?_)
  refine with_tabW ev_tab6 ev_bits6 (fun HT_ HW_ => ?_)
  refine take_ (i := 0) (N := some 28) (v := .int .u64 p) (a' := ?_) #[true, false, false, false, false, false, false, false] rfl rfl (take_ofW HT_.out HW_.out (by kernel_rfl)) (fun _ _ _ h => hQp _ _ _ _ h) (Or.inl ⟨by rfl, ?_⟩) hHeld ?_ ?_
  · intro w' s0
    obtain ⟨s1, s2, s3⟩ := s0
    go_simp
    try with_reducible rfl
  rotate_left
  · simp only [Act.put, List.setIfInBounds_toArray, List.set_cons_zero, List.set_cons_succ]
    rfl
  refine take_ (i := 1) (N := some 29) (v := .int .u64 p) (a' := ?_) #[true, true, false, false, false, false, false, false] rfl rfl (take_ofW HT_.out HW_.out (by kernel_rfl)) (fun _ _ _ h => hQp _ _ _ _ h) (Or.inl ⟨by rfl, ?_⟩) hHeld ?_ ?_
  · intro w' s0
    obtain ⟨s1, s2, s3⟩ := s0
    go_simp
    try with_reducible rfl
  rotate_left
  · simp only [Act.put, List.setIfInBounds_toArray, List.set_cons_zero, List.set_cons_succ]
    rfl
  refine take_ (i := 2) (N := some 30) (v := .int .u64 o) (a' := ?_) #[true, true, true, false, false, false, false, false] rfl rfl (take_ofW HT_.out HW_.out (by kernel_rfl)) (fun _ _ _ h => hQp _ _ _ _ h) (Or.inl ⟨by rfl, ?_⟩) hHeld ?_ ?_
  · intro w' s0
    obtain ⟨s1, s2, s3⟩ := s0
    go_simp
    try with_reducible rfl
  rotate_left
  · simp only [Act.put, List.setIfInBounds_toArray, List.set_cons_zero, List.set_cons_succ]
    rfl
  refine take_ (i := 3) (N := some 31) (v := .int .u64 x) (a' := ?_) #[true, true, true, true, false, false, false, false] rfl rfl (take_ofW HT_.out HW_.out (by kernel_rfl)) (fun _ _ _ h => hQp _ _ _ _ h) (Or.inl ⟨by rfl, ?_⟩) hHeld ?_ ?_
  · intro w' s0
    obtain ⟨s1, s2, s3⟩ := s0
    go_simp
    try with_reducible rfl
  rotate_left
  · simp only [Act.put, List.setIfInBounds_toArray, List.set_cons_zero, List.set_cons_succ]
    rfl
  refine pure_ (i := 5) (N := some 33) (v := .int .u64 y) (a' := ?_) #[true, true, true, true, false, true, false, false] rfl rfl (any_of HT_.out (by kernel_rfl)) (fun _ _ _ h => hQp _ _ _ _ h) (Or.inl ⟨by rfl, ?_⟩) ?_ ?_
  · intro w'
    go_simp
    try with_reducible rfl
  rotate_left
  · simp only [Act.put, List.setIfInBounds_toArray, List.set_cons_zero, List.set_cons_succ]
    rfl
  refine one_ (i := 4) (N := some 32) #[true, true, true, true, true, true, false, false] rfl rfl (one_of HT_.out (by kernel_rfl)) (by decide) (fun K hK => ?_)
  refine goes_ Try.func66 (by kernel_rfl) rfl #[.int .u64 p, .int .u64 o, .int .u64 x] (by rfl) rfl rfl (by (try simp only [List.map_toArray, List.map_cons, List.map_nil]); first | done | rfl) ?_
  have hb0 : Below W.heap.size W W.drew := (Below.refl _ _).drew
  refine (HC.out.1 _).mono ?_
  rintro e w1 ⟨rfl, hb1⟩
  have hb01 : Below W.heap.size W w1 := hb0.trans hb1
  refine ⟨_, rfl, hK.out _ _ ⟨(hb01.cell (World.block_lt_of_cell? _ _ hx)).trans hx, (hb01.cell (World.block_lt_of_cell? _ _ hr)).trans hr, (hb01.cell (World.block_lt_of_cell? _ _ ho)).trans ho⟩ (fun hHeld => ?_)⟩
  clear hK K
  refine norm_ (a' := ?_) ?_ ?_
  rotate_left
  · show Act.put _ (some 32) _ = _
    simp only [Act.put, List.setIfInBounds_toArray, List.set_cons_zero, List.set_cons_succ]
    rfl
  refine one_ (i := 6) (N := some 34) #[true, true, true, true, true, true, true, false] rfl rfl (one_of HT_.out (by kernel_rfl)) (by decide) (fun K hK => ?_)
  refine goes_ Try.func65 (by kernel_rfl) rfl #[.int .u64 p, .int .u64 v1, .int .u64 y] (by rfl) rfl rfl (by (try simp only [List.map_toArray, List.map_cons, List.map_nil]); first | done | rfl) ?_
  refine (HC.out.2 _).mono ?_
  rintro e w2 ⟨rfl, hb2⟩
  have hb02 : Below W.heap.size W w2 := hb01.trans (hb2.mono hb01.size)
  have hfo2 : w2.frozen? ⟨Ob, 0, none⟩ = false := (hb02.frozen (World.block_lt_of_cell? _ _ ho)).trans hfo
  refine ⟨_, rfl, hK.out _ _ ⟨(hb02.cell (World.block_lt_of_cell? _ _ hx)).trans hx, (hb02.cell (World.block_lt_of_cell? _ _ hr)).trans hr, (hb02.cell (World.block_lt_of_cell? _ _ ho)).trans ho⟩ (fun hHeld => ?_)⟩
  clear hK K
  refine norm_ (a' := ?_) ?_ ?_
  rotate_left
  · show Act.put _ (some 34) _ = _
    simp only [Act.put, List.setIfInBounds_toArray, List.set_cons_zero, List.set_cons_succ]
    rfl
  have HF := HQ.out
  obtain ⟨hx1, hx2, hx3⟩ := hHeld
  refine last_ (i := 7) (N := none) #[true, true, true, true, true, true, true, true] rfl rfl (one_of HT_.out (by kernel_rfl)) (by decide) (fun K hK => ?_)
  refine skip_ (w1 := w2.setCell ⟨Ob, 0, none⟩ (.int .u64 v2)) (by rfl) rfl ?_ ?_
  · go_simp
    try rfl
  refine hK.out _ _ ?_
  clear hK K
  refine done_ (done_of HT_.out (by kernel_rfl)) ?_
  exact HF _ _ hb02
end Go.Proofs.Ytffcjgelcdilcaa.Rf

namespace Go.Proofs.Ytffcjgelcdilcaa.Rf
open Go.RowKit Go.Shelf Go.Proofs Go.Proofs.Ytffcjgelcdilcaa.PAll Go.Proofs.YtffcjgelcdilcaaW.PrintWords Go.Proofs.YtffcjgelcdilcaaW.PrintLast Go.Proofs.YtffcjgelcdilcaaW.PrintMore
attribute [local go_sem] Oper.semAt_some

theorem C_one {W : World} {B : Nat} {x : Int} (h : W.cell? ⟨B, 0, none⟩ = some (.int .u64 x)) : Kd.C (Kd.int .u64) W (some ⟨B, 0, none⟩) [x].length [x] := by
  refine ⟨rfl, by simp, fun _ => ⟨⟨B, 0, none⟩, rfl, ?_⟩⟩
  intro j q hj
  cases j with
  | zero =>
    simp at hj
    subst hj
    refine ⟨[.int .u64 x], rfl, rfl, ?_⟩
    intro i u hi
    cases i with
    | zero => simp at hi; subst hi; simpa [Addr.add] using h
    | succ i => simp at hi
  | succ j => simp at hj

set_option maxHeartbeats 4000000 in
set_option maxRecDepth 100000 in
theorem eval_bad1 (k : Nat) (a0 : Int) (A1 : Option Addr) (c1 : Nat) (l1 : List Int) (a2 : Int) (w : World) (hr1 : Kd.C (Kd.int .u64) w A1 l1.length l1) (hc1 : l1.length ≤ c1) (h : poly_Right.f k a0 l1 = some false) :
    Calls Try.prog 37 #[.int .u64 a0, .slice A1 l1.length c1, .int .u64 a2] w fun e w' => e = .returned (.tuple #[.int .u64 0, .int .i64 1]) ∧ Below w.heap.size w w' := by
  have HR1 := Aside0.mk hr1
  clear hr1
  have A := Aside0.mk h
  clear h
  go_enter Try.func37, Try.ntmps37
  go_wp2_with (first | (go_at_call 39; (with_reducible refine (poly_Right.calls k a0 _ _ l1 false _ ?s1 hc1 A.out).mono ?_); (case s1 => repeat (first | exact HR1.out | (with_reducible refine Kd.C_alloc ?_ _))); rintro e w' ⟨rfl, ⟨nd, rfl⟩⟩))
  go_ret2
  exact ⟨rfl, by repeat (first | (with_reducible first | exact Below.refl _ _ | apply below_alloc | apply pw_below_drewN | apply below_drew1))⟩

theorem has1_calls (k : Nat) (a0 a2 : Int) (r : Bool) (B : Nat) (W : World) (hc : W.cell? ⟨B, 0, none⟩ = some (.int .u64 a2)) (h : field_Has.f k a0 [a2] = some r) :
    Calls Try.prog 28 #[.int .u64 a0, .slice (some ⟨B, 0, none⟩) 1 1] W fun e w' => e = .returned (.bool r) ∧ Drawn0 W w' := field_Has.calls k a0 _ 1 [a2] r W (C_one hc) (Nat.le_refl _) h

set_option maxHeartbeats 4000000 in
set_option maxRecDepth 100000 in
theorem eval_bad2 (k : Nat) (a0 : Int) (A1 : Option Addr) (c1 : Nat) (l1 : List Int) (a2 : Int) (w : World) (hr1 : Kd.C (Kd.int .u64) w A1 l1.length l1) (hc1 : l1.length ≤ c1) (h : poly_Right.f k a0 l1 = some true) (h2 : field_Has.f k a0 [a2] = some false) :
    Calls Try.prog 37 #[.int .u64 a0, .slice A1 l1.length c1, .int .u64 a2] w fun e w' => e = .returned (.tuple #[.int .u64 0, .int .i64 1]) ∧ Below w.heap.size w w' := by
  have HR1 := Aside0.mk hr1
  clear hr1
  have A := Aside0.mk h
  have A2 := Aside0.mk h2
  clear h h2
  go_enter Try.func37, Try.ntmps37
  go_wp2_with (first | (go_at_call 39; (with_reducible refine (poly_Right.calls k a0 _ _ l1 true _ ?s1 hc1 A.out).mono ?_); (case s1 => repeat (first | exact HR1.out | (with_reducible refine Kd.C_alloc ?_ _))); rintro e w' ⟨rfl, ⟨nd1, rfl⟩⟩) | (go_at_call 28; (with_reducible refine (has1_calls k a0 a2 false _ _ ?s1 A2.out).mono ?_); (case s1 => go_simp); rintro e w' ⟨rfl, ⟨nd, rfl⟩⟩))
  go_ret2
  exact ⟨rfl, by repeat (first | (with_reducible first | exact Below.refl _ _ | apply below_alloc | apply pw_below_drewN | apply below_drew1))⟩

theorem ws_of {w : World} {A : Option Addr} {c : Nat} {l : List Int} (h : Kd.C (Kd.int .u64) w A l.length l) : Ws w.heap.size w (.slice A l.length c) l := by
  cases l with
  | nil => exact .inl ⟨_, _, rfl, rfl⟩
  | cons x xs =>
    obtain ⟨ad, e, hc⟩ := h.2.2 (by simp)
    have hcell : ∀ j, j < (x :: xs).length → w.cell? (ad.add j) = some (.int .u64 ((x :: xs)[j]?.getD 0)) := by
      intro j hj
      obtain ⟨cs, _, h2, h3⟩ := hc j _ (List.getElem?_eq_getElem hj)
      have h2' : cs = [.int .u64 (x :: xs)[j]] := h2
      have := h3 0 (.int .u64 (x :: xs)[j]) (by rw [h2']; rfl)
      rw [List.getElem?_eq_getElem hj]
      simpa [show (Kd.int .u64).sz = 1 from rfl] using this
    refine .inr ⟨ad, c, by rw [e], ?_, hcell⟩
    have := World.block_lt_of_cell? w _ (hcell 0 (by simp))
    rwa [add_block] at this

/-- A step of Horner's rule. -/
def st (p x o y : Int) : Int := (o * x % p + y) % p
/-- A polynomial's number at a place, by Horner's rule. -/
def hor (p x : Int) (l : List Int) : Int := l.foldr (fun y o => st p x o y) 0
theorem hor_eq (p x : Int) (l : List Int) : l.reverse.foldl (st p x) 0 = hor p x l := by unfold hor; rw [List.foldl_reverse]

theorem keepsOthers_of_below {W W' : World} (h : Below W.heap.size W W') : KeepsOthers W W' :=
  ⟨h.size, fun b o ho _ => (h.block b (Array.getElem?_eq_some_iff.1 ho).1).trans ho⟩
theorem st_range {p : Nat} (_hp : 2 ≤ p) (x : Int) (l : List Int) : 0 ≤ l.foldl (st p x) 0 ∧ l.foldl (st p x) 0 < p := by
  suffices ∀ (l : List Int) (o : Int), 0 ≤ o → o < p → 0 ≤ l.foldl (st p x) o ∧ l.foldl (st p x) o < p from this l 0 (by omega) (by omega)
  intro l
  induction l with
  | nil => intro _ h0 h1; exact ⟨h0, h1⟩
  | cons y ys ih =>
    intro _ h0 h1
    exact ih _ (Int.emod_nonneg _ (by omega)) (Int.emod_lt_of_pos _ (by omega))
theorem mulr_calls {p : Nat} {a b : Int} (hp2 : 2 ≤ p) (hp : (p : Int) < 9223372036854775808) (ha : 0 ≤ a) (ha' : a < p) (hb : 0 ≤ b) (hb' : b < p) (W : World) :
    Calls Try.prog 66 #[.int .u64 p, .int .u64 a, .int .u64 b] W fun e w' => e = .returned (.int .u64 (a * b % p)) ∧ Below W.heap.size W w' :=
  poly_ring_mul.calls 13 p a b _ W (by unfold poly_ring_mul.f; rw [Spec.mul_spec hp2 hp ha ha' hb hb' (Nat.le_refl _)]; rfl)
theorem addr_calls {p : Nat} {a b : Int} (hp2 : 2 ≤ p) (hp : (p : Int) < 9223372036854775808) (ha : 0 ≤ a) (ha' : a < p) (hb : 0 ≤ b) (hb' : b < p) (W : World) :
    Calls Try.prog 65 #[.int .u64 p, .int .u64 a, .int .u64 b] W fun e w' => e = .returned (.int .u64 ((a + b) % p)) ∧ Below W.heap.size W w' :=
  poly_ring_add.calls 13 p a b _ W (by unfold poly_ring_add.f; rw [Spec.add_spec hp2 hp ha ha' hb hb' (Nat.le_refl _)]; rfl)
theorem eval_fin {p : Nat} {S B : Nat} {w W w2 : World} {a2 o y v : Int} (hS : S = w.heap.size) (hlt : S + 1 + 1 + 1 < W.heap.size) (hb : Below W.heap.size W w2) (hB : Below w.heap.size w W) (hlt2 : S + 1 + 1 + 1 + 1 < W.heap.size)
    (hx : W.cell? ⟨S, 0, none⟩ = some (.int .u64 a2)) (hr : W.cell? ⟨S + 1 + 1, 0, none⟩ = some (.int .u64 p)) {sv : Value} (hs : W.cell? ⟨S + 1 + 1 + 1 + 1, 0, none⟩ = some sv) (hoW : W.cell? ⟨S + 1 + 1 + 1, 0, none⟩ = some (.int .u64 o)) (hfW : W.frozen? ⟨S + 1 + 1 + 1, 0, none⟩ = false) (hv : v = (o * a2 % p + y) % p) :
    KeepsFrom B W (w2.setCell ⟨S + 1 + 1 + 1, 0, none⟩ (.int .u64 ((o * a2 % p + y) % p))) ∧ KB S (S + 1 + 1 + 1 + 1) W (w2.setCell ⟨S + 1 + 1 + 1, 0, none⟩ (.int .u64 ((o * a2 % p + y) % p))) ∧
      (((w2.setCell ⟨S + 1 + 1 + 1, 0, none⟩ (.int .u64 ((o * a2 % p + y) % p))).cell? ⟨S, 0, none⟩ = some (.int .u64 a2) ∧ (w2.setCell ⟨S + 1 + 1 + 1, 0, none⟩ (.int .u64 ((o * a2 % p + y) % p))).cell? ⟨S + 1 + 1, 0, none⟩ = some (.int .u64 p) ∧
        (w2.setCell ⟨S + 1 + 1 + 1, 0, none⟩ (.int .u64 ((o * a2 % p + y) % p))).cell? ⟨S + 1 + 1 + 1, 0, none⟩ = some (.int .u64 v) ∧ (w2.setCell ⟨S + 1 + 1 + 1, 0, none⟩ (.int .u64 ((o * a2 % p + y) % p))).frozen? ⟨S + 1 + 1 + 1, 0, none⟩ = false ∧ (w2.setCell ⟨S + 1 + 1 + 1, 0, none⟩ (.int .u64 ((o * a2 % p + y) % p))).cell? ⟨S + 1 + 1 + 1 + 1, 0, none⟩ = some sv) ∧ Below w.heap.size w (w2.setCell ⟨S + 1 + 1 + 1, 0, none⟩ (.int .u64 ((o * a2 % p + y) % p)))) := by
  subst hv
  generalize hgv : (o * a2 % p + y) % p = vv
  have ho := (hb.cell (p := ⟨S + 1 + 1 + 1, 0, none⟩) hlt).trans hoW
  have hf := (hb.frozen (p := ⟨S + 1 + 1 + 1, 0, none⟩) hlt).trans hfW
  have hw : Below w.heap.size w w2 := hB.trans (hb.mono hB.size)
  have hk : KeepsOthers W (w2.setCell ⟨S + 1 + 1 + 1, 0, none⟩ (.int .u64 vv)) := (keepsOthers_of_below hb).trans (KeepsOthers.setCell _ _ _)
  have far : ∀ (b : Nat) (u : Value), b < W.heap.size → b ≠ S + 1 + 1 + 1 → W.cell? ⟨b, 0, none⟩ = some u → (w2.setCell ⟨S + 1 + 1 + 1, 0, none⟩ (.int .u64 vv)).cell? ⟨b, 0, none⟩ = some u := by
    intro b u hbl hne hc
    rw [World.cell?_setCell_other _ _ _ _ (by intro e; injection e with e1; exact hne e1.symm)]
    exact (hb.cell (p := ⟨b, 0, none⟩) hbl).trans hc
  refine ⟨hk.from _, ⟨?_, ?_⟩, ⟨far S _ (by omega) (by omega) hx, far (S + 1 + 1) _ (by omega) (by omega) hr, World.cell?_setCell_same' _ _ _ (by rw [ho]; rfl), by rw [World.frozen?_setCell]; exact hf, far (S + 1 + 1 + 1 + 1) _ (by omega) (by omega) hs⟩, ?_⟩
  · subst hS
    exact (hb.mono (by omega)).setCell (p := ⟨w.heap.size + 1 + 1 + 1, 0, none⟩) (by show w.heap.size ≤ w.heap.size + 1 + 1 + 1; omega) _
  · intro u hu
    exact far _ u (World.block_lt_of_cell? W _ hu) (by omega) hu
  · subst hS
    exact hw.setCell (p := ⟨w.heap.size + 1 + 1 + 1, 0, none⟩) (by show w.heap.size ≤ w.heap.size + 1 + 1 + 1; omega) _
theorem getD_range {p : Nat} (hp : 2 ≤ p) {l : List Int} (h : ∀ x ∈ l, 0 ≤ x ∧ x < p) (i : Nat) : 0 ≤ l[i]?.getD 0 ∧ l[i]?.getD 0 < p := by
  cases e : l[i]? with
  | none => simp; omega
  | some v => exact h v (List.mem_of_getElem? e)

set_option maxHeartbeats 4000000 in
set_option maxRecDepth 100000 in
theorem eval_ok (k : Nat) (p : Nat) (A1 : Option Addr) (c1 : Nat) (l1 : List Int) (a2 : Int) (w : World) (hr1 : Kd.C (Kd.int .u64) w A1 l1.length l1) (hc1 : l1.length ≤ c1) (h : poly_Right.f k p l1 = some true) (h2 : field_Has.f k p [a2] = some true)
    (hp2 : 2 ≤ p) (hp : (p : Int) < 9223372036854775808) (hl : ∀ x ∈ l1, 0 ≤ x ∧ x < p) (ha : 0 ≤ a2 ∧ a2 < p) (hlen : l1.length * 8 ≤ 140737488351232) :
    Calls Try.prog 37 #[.int .u64 p, .slice A1 l1.length c1, .int .u64 a2] w fun e w' => e = .returned (.tuple #[.int .u64 (hor p a2 l1), .int .i64 0]) ∧ Below w.heap.size w w' := by
  have HR1 := Aside0.mk hr1
  clear hr1
  have A := Aside0.mk h
  have A2 := Aside0.mk h2
  clear h h2
  have HP := Aside0.mk (And.intro hp2 hp)
  have HL := Aside0.mk hl
  have HA := Aside0.mk ha
  clear hp2 hp hl ha
  refine (callsIn_wide (n := 12)).1 ?_
  refine callsIn_of_wp_marks Try.func37 rfl trivial ?_ rfl
  refine wpIn_wide.2 ?_
  simp only [Try.ntmps37, List.size_toArray, List.length_cons, List.length_nil, Nat.reduceAdd, Nat.reduceSub, Array.replicate_succ, Array.replicate_zero, List.push_toArray, List.append_toArray, List.nil_append, List.cons_append]
  go_wp2_with (first | (go_at_call 39; (with_reducible refine (poly_Right.calls k p _ _ l1 true _ ?s1 hc1 A.out).mono ?_); (case s1 => repeat (first | exact HR1.out | (with_reducible refine Kd.C_alloc ?_ _))); rintro e w' ⟨rfl, ⟨nd1, rfl⟩⟩) | (go_at_call 28; (with_reducible refine (has1_calls k p a2 true _ _ ?s1 A2.out).mono ?_); (case s1 => go_simp); rintro e w' ⟨rfl, ⟨nd, rfl⟩⟩) | (go_at_call 64; refine (backward_calls _ _ _ _).mono ?_; rintro e w' ⟨rfl, rfl⟩))
  obtain ⟨W0, hW0, hsz, hcx, hcr, hco, hfo, hcs, hB0⟩ : ∃ W0, (((((((w.alloc (.cells #[.int .u64 a2] 22)).drewN nd1).alloc (.cells #[.int .u64 a2] 22)).drewN nd).alloc (.cells #[.int .u64 p] 60)).alloc (.cells #[.int .u64 0] 22)).alloc (.cells #[.slice A1 l1.length c1] 23)) = W0 ∧ W0.heap.size = w.heap.size + 5 ∧
      W0.cell? ⟨w.heap.size, 0, none⟩ = some (.int .u64 a2) ∧ W0.cell? ⟨w.heap.size + 1 + 1, 0, none⟩ = some (.int .u64 p) ∧ W0.cell? ⟨w.heap.size + 1 + 1 + 1, 0, none⟩ = some (.int .u64 0) ∧ W0.frozen? ⟨w.heap.size + 1 + 1 + 1, 0, none⟩ = false ∧
      W0.cell? ⟨w.heap.size + 1 + 1 + 1 + 1, 0, none⟩ = some (.slice A1 l1.length c1) ∧ Below w.heap.size w W0 := by
    refine ⟨_, rfl, by simp, by go_simp, by go_simp, by go_simp, by go_simp, by go_simp, ?_⟩
    repeat (first | (with_reducible first | exact Below.refl _ _ | apply below_alloc | apply pw_below_drewN | apply below_drew1))
  rw [hW0]
  clear hW0
  have hws : Ws w.heap.size W0 (.slice A1 l1.length c1) l1 := Ws.below hB0 (ws_of HR1.out)
  refine (wpIn_wide (n := 12)).1 ?_
  have h1 : 1 ≤ 12 := by omega
  refine wpIn_rangeFunc_ownG (F := Fence.wide) (n := 12) rfl h1 (gf := 78) (lb := #[.pointer (some ⟨w.heap.size + 1 + 1 + 1 + 1, 0, none⟩)]) rfl trivial (enters_of Try.func78 (by kernel_rfl) rfl)
    (backward_stops Fence.wide 11 trivial rfl (by omega) (w.heap.size + 1 + 1 + 1 + 1) w.heap.size _ l1 hlen W0 (by omega) (by omega) hcs hws) KB.trans (KB.put (by omega)) (Below.refl _ _) (fun _ => rfl)
    (fun pre W => (W.cell? ⟨w.heap.size, 0, none⟩ = some (.int .u64 a2) ∧ W.cell? ⟨w.heap.size + 1 + 1, 0, none⟩ = some (.int .u64 p) ∧ W.cell? ⟨w.heap.size + 1 + 1 + 1, 0, none⟩ = some (.int .u64 ((pre.map fun i => l1[i]?.getD 0).foldl (st p a2) 0)) ∧ W.frozen? ⟨w.heap.size + 1 + 1 + 1, 0, none⟩ = false ∧ W.cell? ⟨w.heap.size + 1 + 1 + 1 + 1, 0, none⟩ = some (.slice A1 l1.length c1)) ∧ Below w.heap.size w W)
    (fun _ _ _ => False)
    (OwnFrom.and (Own.from (fun s A B row hs hg hr => ⟨cell_kept hs.1 hg hr, cell_kept hs.2.1 hg hr, cell_kept hs.2.2.1 hg hr, (frozen_kept hs.2.2.1 hg hr).trans hs.2.2.2.1, cell_kept hs.2.2.2.2 hg hr⟩) _) (ownFrom_below (Nat.le_refl _) (by omega)))
    (fun _ _ _ _ _ hs _ _ => hs)
    ⟨⟨hcx, hcr, hco, hfo, hcs⟩, hB0⟩
    (fun x => { tmps := #[.int .u64 p, .slice A1 l1.length c1, .int .u64 a2, undef, undef, .pointer (some ⟨w.heap.size, 0, none⟩), .int .u64 0, .int .i64 0, .pointer (some ⟨w.heap.size + 1 + 1, 0, none⟩), .pointer (some ⟨w.heap.size + 1 + 1 + 1, 0, none⟩), undef, .int .u64 (l1[x]?.getD 0), .int .u64 p, .slice A1 l1.length c1, .bool true, .bool false, .bool false, .int .u64 p, .int .u64 a2, .slice (some ⟨w.heap.size + 1, 0, none⟩) 1 1, .bool true, .bool false, .bool false, .int .u64 p, .slice A1 l1.length c1, .func (.func 78) #[] #[.pointer (some ⟨w.heap.size + 1 + 1 + 1 + 1, 0, none⟩)], .int .i64 (x : Int), .int .u64 (l1[x]?.getD 0), undef, undef, undef, undef, undef, undef, undef, undef], defers := [] }) ?assign ?body ?done ?stop
  case assign =>
    intro l x W K hK
    gi_wp2
    exact hK
  case body =>
    rintro l pre x W ⟨⟨hx, hr, ho, hf, hs⟩, hB⟩ _
    have hmx : Try.prog.follows .mixedOrders = true := by kernel_rfl
    obtain ⟨hp2, hp⟩ := HP.out
    obtain ⟨ha, ha'⟩ := HA.out
    obtain ⟨ho0, ho1⟩ := st_range hp2 a2 (pre.map fun i => l1[i]?.getD 0)
    obtain ⟨hy0, hy1⟩ := getD_range hp2 HL.out x
    have hnew : ((pre ++ [x]).map fun i => l1[i]?.getD 0).foldl (st p a2) 0 = st p a2 ((pre.map fun i => l1[i]?.getD 0).foldl (st p a2) 0) (l1[x]?.getD 0) := by simp
    generalize hov : (pre.map fun i => l1[i]?.getD 0).foldl (st p a2) 0 = o at *
    generalize hyv : l1[x]?.getD 0 = y at *
    have HN := Aside0.mk hnew
    have hlt : w.heap.size + 1 + 1 + 1 < W.heap.size := World.block_lt_of_cell? W _ ho
    have HM := (fun W => mulr_calls hp2 hp ho0 ho1 ha ha' W)
    have HS := (fun W => addr_calls (a := o * a2 % p) (b := y) hp2 hp (Int.emod_nonneg _ (by omega)) (Int.emod_lt_of_pos _ (by omega)) hy0 hy1 W)
    clear hnew hov hyv ho0 ho1 hy0 hy1 ha ha' hp hp2
    have hlt2 : w.heap.size + 1 + 1 + 1 + 1 < W.heap.size := World.block_lt_of_cell? W _ hs
    clear HR1 A A2 hc1 hlen HL HA HP hws hcs hcr hco hfo hcx hB0 h1 hsz
    gi_wp2
    refine ev_round p l _ _ W _ _ _ a2 o y _ _ hx hr ho hf HM HS (fun ⟨_, _, h⟩ => h) (fun _ _ _ _ h => h) ?_
    intro a' w2 hb
    exact eval_fin rfl hlt hb hB hlt2 hx hr hs ho hf (HN.out.trans (by unfold st; rfl))
  case done =>
    rintro D ys W hD rfl ⟨⟨hx, hr, ho, hf, hs⟩, hB⟩ hK
    rw [upto_back l1.length l1 rfl, hor_eq] at ho
    gi_wp2
    have hb2 := hB.trans (belowK_b (w := w) (Nat.le_refl _) W D _ (.deferred none) (by omega) hK rfl rfl)
    go_wp2
    refine ⟨by simp, .inl ⟨_, _, rfl, run_takeDeferred hK, ?_⟩⟩
    exact ⟨_, results_tmp2 rfl _ _ _, rfl, hb2⟩
  case stop =>
    rintro D c pre W _ _ h _
    exact h.elim
/-- What the call tells. -/
def evalF (k : Nat) (a0 : Int) (l1 : List Int) (a2 : Int) : Option (Int × Int) := (poly_Right.f k a0 l1).bind fun b => if b = true then ((field_Has.f k a0 [a2]).bind fun c => if c = true then (if (l1.all (fun y => decide (0 ≤ y)) && decide (0 ≤ a2)) = true then some (hor a0 a2 l1, 0) else none) else some (0, 1)) else some (0, 1)
theorem evalF.mono (a0 : Int) (l1 : List Int) (a2 : Int) (k : Nat) : LeO (evalF k a0 l1 a2) (evalF (k + 1) a0 l1 a2) := by
  refine LeO.bind (poly_Right.mono _ _ _) fun b => ?_
  refine LeO.ite ?_ (LeO.refl _)
  exact LeO.bind (field_Has.mono _ _ _) fun c => LeO.refl _
theorem right_true {k : Nat} {a0 : Int} {l1 : List Int} (h : poly_Right.f k a0 l1 = some true) : l1.length ≤ 512 ∧ Spec.hasB a0 l1 = true := by
  unfold poly_Right.f at h
  by_cases c : (l1.length : Int) ≤ 512
  · rw [if_pos c] at h
    refine ⟨by omega, ?_⟩
    obtain ⟨b, h1, h2⟩ := Option.bind_eq_some_iff.mp h
    have h3 := at_rounds (fun k => field_Has.mono a0 l1 k) (Nat.le_max_left k (l1.length + 1)) h1
    rw [Spec.has_spec (by omega) (by omega)] at h3
    cases b with
    | true => exact Option.some.inj h3
    | false => simp at h2
  · rw [if_neg c] at h
    simp at h
theorem has_true {k : Nat} {a0 a2 : Int} (h : field_Has.f k a0 [a2] = some true) : a2 < a0 ∧ Spec.okB a0 = true := by
  have h3 := at_rounds (fun k => field_Has.mono a0 [a2] k) (Nat.le_max_left k 2) h
  rw [Spec.has_one (by omega)] at h3
  have := Option.some.inj h3
  simpa using this
theorem evalF.calls (k : Nat) (a0 : Int) (A1 : Option Addr) (c1 : Nat) (l1 : List Int) (a2 : Int) (r1 : Int) (r2 : Int) (w : World) (hr1 : Kd.C (Kd.int .u64) w A1 l1.length l1) (hc1 : l1.length ≤ c1) (h : evalF k a0 l1 a2 = some (r1, r2)) :
    Calls Try.prog 37 #[.int .u64 a0, .slice A1 l1.length c1, .int .u64 a2] w fun e w' => e = .returned (.tuple #[.int .u64 r1, .int .i64 r2]) ∧ Below w.heap.size w w' := by
  unfold evalF at h
  obtain ⟨b, h1, h⟩ := Option.bind_eq_some_iff.mp h
  cases b with
  | false =>
    simp only [Bool.false_eq_true, if_false, Option.some.injEq, Prod.mk.injEq] at h
    obtain ⟨rfl, rfl⟩ := h
    exact eval_bad1 k a0 A1 c1 l1 a2 w hr1 hc1 h1
  | true =>
    rw [if_pos rfl] at h
    obtain ⟨c, h2, h⟩ := Option.bind_eq_some_iff.mp h
    cases c with
    | false =>
      simp only [Bool.false_eq_true, if_false, Option.some.injEq, Prod.mk.injEq] at h
      obtain ⟨rfl, rfl⟩ := h
      exact eval_bad2 k a0 A1 c1 l1 a2 w hr1 hc1 h1 h2
    | true =>
      rw [if_pos rfl] at h
      by_cases hc : (l1.all (fun y => decide (0 ≤ y)) && decide (0 ≤ a2)) = true
      · rw [if_pos hc] at h
        simp only [Option.some.injEq, Prod.mk.injEq] at h
        obtain ⟨rfl, rfl⟩ := h
        simp only [Bool.and_eq_true, List.all_eq_true, decide_eq_true_eq] at hc
        obtain ⟨g1, g2⟩ := right_true h1
        obtain ⟨g3, g4⟩ := has_true h2
        unfold Spec.okB at g4
        unfold Spec.hasB at g2
        simp only [Bool.and_eq_true, List.all_eq_true, decide_eq_true_eq] at g4 g2
        obtain ⟨p, rfl⟩ : ∃ p : Nat, a0 = p := ⟨a0.toNat, by omega⟩
        exact eval_ok k p A1 c1 l1 a2 w hr1 hc1 h1 h2 (by omega) g4.2 (fun x hx => ⟨hc.1 x hx, g2.1 x hx⟩) ⟨hc.2, g3⟩ (by omega)
      · rw [if_neg hc] at h
        cases h
end Go.Proofs.Ytffcjgelcdilcaa.Rf

/- poly.Bezout: the steps back over the rows, as sums and products; rows of words in memory. poly.Bezout: one step back (the body of the range over the quotients). poly.Bezout: what it ends with: the divisor times a number, and the two that were made. poly.Bezout: the walk. -/
import Derived.Test.YtffcjgelcdilcaaPolyS
import Derived.Test.YtffcjgelcdilcaaBack
import Derived.Test.YtffcjgelcdilcaaPAllx3
import Derived.Test.YtffcjgelcdilcaaPAllx7
import Derived.Test.YtffcjgelcdilcaaPAllx6
import Derived.Test.YtffcjgelcdilcaaPAllx1
import Derived.Test.YtffcjgelcdilcaaPAllx5
set_option linter.unusedSectionVars false
namespace Go.Proofs.Ytffcjgelcdilcaa.Rh
open Go.RowKit Go.Shelf Go.Proofs Go.Proofs.Ytffcjgelcdilcaa.PAll Go.Proofs.YtffcjgelcdilcaaW.PrintWords Go.Proofs.YtffcjgelcdilcaaW.PrintLast Go.Proofs.YtffcjgelcdilcaaW.PrintMore Go.Proofs.Ytffcjgelcdilcaa.Rf Go.Proofs.Ytffcjgelcdilcaa.Spec Fp

/-- The rows and the number that the last steps start from are in range. -/
def okR (p : Int) (rows : List (List Int)) (c : Int) : Bool := decide (2 ≤ p) && decide (p < 9223372036854775808) && decide (0 ≤ c) && decide (c < p) && decide (rows.length ≤ 600) && rows.all (fun q => decide (q.length ≤ 600) && q.all fun x => decide (0 ≤ x) && decide (x < p))
/-- The steps back. -/
def back (k : Nat) (p : Int) : List (List Int) → List Int → List Int → Option (List Int × List Int)
  | [], s, t => some (s, t)
  | q :: qs, s, t => (poly_ring_times.f k p q t).bind fun m => (poly_each_sub.f k s m p).bind fun u => back k p qs t u
theorem back.mono (p : Int) (qs : List (List Int)) (s t : List Int) (k : Nat) : LeO (back k p qs s t) (back (k + 1) p qs s t) := by
  induction qs generalizing s t with
  | nil => exact LeO.refl _
  | cons q qs ih =>
    refine LeO.bind (poly_ring_times.mono _ _ _ _) fun m => ?_
    exact LeO.bind (poly_each_sub.mono _ _ _ _) fun u => ih _ _

theorem okR_spec {p : Int} {rows : List (List Int)} {c : Int} (h : okR p rows c = true) : ∃ n : Nat, p = n ∧ Md n ∧ (0 ≤ c ∧ c < n) ∧ rows.length ≤ 600 ∧ ∀ q ∈ rows, q.length ≤ 600 ∧ In n q := by
  unfold okR at h
  simp only [Bool.and_eq_true, decide_eq_true_eq, List.all_eq_true] at h
  obtain ⟨⟨⟨⟨⟨h1, h2⟩, h3⟩, h4⟩, h5⟩, h6⟩ := h
  refine ⟨p.toNat, by omega, by unfold Md; omega, by omega, h5, fun q hq => ⟨(h6 q hq).1, fun x hx => ?_⟩⟩
  have := (h6 q hq).2 x hx
  omega

section
variable {p : Nat} [NeZero p]
/-- A step back. -/
noncomputable def stq (p : Nat) [NeZero p] (st : List Int × List Int) (q : List Int) : List Int × List Int := (st.2, toL (toP st.1 - toP q * toP st.2 : Pl p))
theorem Ev.one {α : Type} {g : Nat → Option α} {r r' : α} (h : Ev g r) (hg : ∀ k, LeO (g k) (g (k + 1))) {k : Nat} (h' : g k = some r') : r' = r := by
  obtain ⟨K, h⟩ := h
  have h1 := h (max K k) (Nat.le_max_left _ _)
  have h2 := at_rounds hg (Nat.le_max_right K k) h'
  rw [h1] at h2
  exact (Option.some.inj h2).symm
theorem stq_len {st : List Int × List Int} {q : List Int} {B : Nat} (hq : q.length ≤ 600) (h1 : st.1.length ≤ B) (h2 : st.2.length ≤ B) : (stq p st q).1.length ≤ B + 600 ∧ (stq p st q).2.length ≤ B + 600 := by
  refine ⟨by show st.2.length ≤ _; omega, ?_⟩
  show (toL _).length ≤ _
  rw [length_toL]
  have e1 := Pl.sz_sub_le (toP st.1 : Pl p) (toP q * toP st.2)
  have e2 := Pl.sz_mul_le (toP q : Pl p) (toP st.2)
  have e3 := sz_toP_le (p := p) st.1
  have e4 := sz_toP_le (p := p) q
  have e5 := sz_toP_le (p := p) st.2
  omega
theorem stq_In {st : List Int × List Int} (q : List Int) (h2 : In p st.2) : In p (stq p st q).1 ∧ In p (stq p st q).2 := ⟨h2, In_toL _⟩
/-- The steps are there, with as many rounds as it takes. -/
theorem stq_ev (hp : Md p) {s t q : List Int} (hs : In p s) (ht : In p t) (hq : In p q) (hql : q.length ≤ 600) (hsl : s.length ≤ 900000) (htl : t.length ≤ 900000) :
    ∃ k m, poly_ring_times.f k p q t = some m ∧ poly_each_sub.f k s m p = some (stq p (s, t) q).2 := by
  have hm : (toL (toP q * toP t : Pl p)).length < 1000000 := by
    rw [length_toL]
    have e2 := Pl.sz_mul_le (toP q : Pl p) (toP t)
    have e4 := sz_toP_le (p := p) q
    have e5 := sz_toP_le (p := p) t
    omega
  obtain ⟨K1, h1⟩ := evTimes hp hq ht (by omega) (by omega)
  obtain ⟨K2, h2⟩ := evEachSub hp hs (In_toL (toP q * toP t : Pl p)) (by omega) hm
  refine ⟨max K1 K2, _, h1 _ (Nat.le_max_left _ _), ?_⟩
  have h3 := h2 _ (Nat.le_max_right K1 K2)
  rw [toP_toL] at h3
  exact h3
theorem back_spec (hp : Md p) {k : Nat} : ∀ (qs : List (List Int)) (s t : List Int) (B : Nat) (r : List Int × List Int), (∀ q ∈ qs, q.length ≤ 600 ∧ In p q) → In p s → In p t → s.length ≤ B → t.length ≤ B → B + 600 * qs.length ≤ 900000 →
    back k p qs s t = some r → qs.foldl (stq p) (s, t) = r := by
  intro qs
  induction qs with
  | nil =>
    intro s t B r _ _ _ _ _ _ h
    exact Option.some.inj h
  | cons q qs ih =>
    intro s t B r hq hs ht hsl htl hB h
    obtain ⟨hql, hqi⟩ := hq q List.mem_cons_self
    rw [List.length_cons] at hB
    obtain ⟨m, h1, h⟩ := Option.bind_eq_some_iff.mp h
    obtain ⟨u, h2, h⟩ := Option.bind_eq_some_iff.mp h
    have e1 := Ev.one (evTimes hp hqi ht (by omega) (by omega)) (fun k => poly_ring_times.mono _ _ _ _) h1
    subst e1
    have hm : (toL (toP q * toP t : Pl p)).length < 1000000 := by
      rw [length_toL]
      have e2 := Pl.sz_mul_le (toP q : Pl p) (toP t)
      have e4 := sz_toP_le (p := p) q
      have e5 := sz_toP_le (p := p) t
      omega
    have e2 := Ev.one (evEachSub hp hs (In_toL (toP q * toP t : Pl p)) (by omega) hm) (fun k => poly_each_sub.mono _ _ _ _) h2
    rw [toP_toL] at e2
    subst e2
    have hl := stq_len (p := p) (st := (s, t)) hql hsl htl
    exact ih t _ (B + 600) r (fun q hq' => hq q (List.mem_cons_of_mem _ hq')) ht (In_toL _) (by omega) hl.2 (by omega) h
/-- The state behind the rows at these places. -/
noncomputable def stAt (p : Nat) [NeZero p] (rows : List (List Int)) (c : Int) (pre : List Nat) : List Int × List Int := (pre.map fun j => rows.getD j []).foldl (stq p) ([c], [])
theorem stAt_snoc (rows : List (List Int)) (c : Int) (pre : List Nat) (x : Nat) : stAt p rows c (pre ++ [x]) = stq p (stAt p rows c pre) (rows.getD x []) := by simp [stAt]
theorem row_ok {rows : List (List Int)} (h : ∀ q ∈ rows, q.length ≤ 600 ∧ In p q) (j : Nat) : (rows.getD j []).length ≤ 600 ∧ In p (rows.getD j []) := by
  rw [List.getD_eq_getElem?_getD]
  cases e : rows[j]? with
  | none => exact ⟨by simp, In.nil⟩
  | some q => exact h q (List.mem_of_getElem? e)
theorem stAt_ok {rows : List (List Int)} {c : Int} (hc : 0 ≤ c ∧ c < p) (h : ∀ q ∈ rows, q.length ≤ 600 ∧ In p q) (pre : List Nat) :
    In p (stAt p rows c pre).1 ∧ In p (stAt p rows c pre).2 ∧ (stAt p rows c pre).1.length ≤ 1 + 600 * pre.length ∧ (stAt p rows c pre).2.length ≤ 1 + 600 * pre.length := by
  suffices ∀ (l : List Nat), In p (stAt p rows c l.reverse).1 ∧ In p (stAt p rows c l.reverse).2 ∧ (stAt p rows c l.reverse).1.length ≤ 1 + 600 * l.length ∧ (stAt p rows c l.reverse).2.length ≤ 1 + 600 * l.length by
    have := this pre.reverse
    rwa [List.reverse_reverse, List.length_reverse] at this
  intro l
  induction l with
  | nil => exact ⟨fun x hx => by rw [List.mem_singleton.1 hx]; exact hc, In.nil, by simp [stAt], by simp [stAt]⟩
  | cons x l ih =>
    obtain ⟨i1, i2, i3, i4⟩ := ih
    rw [List.reverse_cons, stAt_snoc]
    have hr := row_ok h x
    have hl := stq_len (p := p) (st := stAt p rows c l.reverse) hr.1 i3 i4
    have hi := stq_In (p := p) (st := stAt p rows c l.reverse) (rows.getD x []) i2
    rw [List.length_cons]
    exact ⟨hi.1, hi.2, by omega, by omega⟩
theorem stAt_back (hp : Md p) {k : Nat} {rows : List (List Int)} {c : Int} (hc : 0 ≤ c ∧ c < p) (hl : rows.length ≤ 600) (h : ∀ q ∈ rows, q.length ≤ 600 ∧ In p q) {r : List Int × List Int} (hb : back k p rows.reverse [c] [] = some r) :
    stAt p rows c (upto (fun j => rows.length - 1 - j) rows.length) = r := by
  have e : (upto (fun j => rows.length - 1 - j) rows.length).map (fun j => rows.getD j []) = rows.reverse := by
    apply List.ext_getElem
    · simp [upto]
    · intro i h1 h2
      have hi : i < rows.length := by simpa [upto] using h1
      simp only [upto, List.getElem_map, List.getElem_range, List.getElem_reverse]
      rw [List.getD_eq_getElem?_getD, List.getElem?_eq_getElem (by omega)]
      simp only [Option.getD_some]
  unfold stAt
  rw [e]
  exact back_spec hp rows.reverse [c] [] 1 r (fun q hq => h q (List.mem_reverse.1 hq)) (fun x hx => by rw [List.mem_singleton.1 hx]; exact hc) In.nil (by simp) (by simp) (by rw [List.length_reverse]; omega) hb
end

/-! ### Rows of words in memory -/
theorem C_kept {W W' : World} {A : Option Addr} {n : Nat} {xs : List Int} {row : Option Nat} (h : Kd.C (Kd.int .u64) W A n xs) (hg : W.grownBy W' row) (hr : ∀ r, row = some r → ∃ o : Obj, W.heap[r]? = some o ∧ o.isCells = false) : Kd.C (Kd.int .u64) W' A n xs :=
  ⟨h.1, h.2.1, fun hn => by
    obtain ⟨ad, e, hc⟩ := h.2.2 hn
    refine ⟨ad, e, fun j q hj => ?_⟩
    obtain ⟨c, h1, h2, h3⟩ := hc j q hj
    exact ⟨c, h1, h2, fun i u hu => Go.cell_kept (h3 i u hu) hg hr⟩⟩
theorem C_set {W : World} {A : Option Addr} {n : Nat} {xs : List Int} {b : Nat} (h : Kd.C (Kd.int .u64) W A n xs) (hb : 0 < n → ∀ ad, A = some ad → ad.block ≠ b) (u : Value) : Kd.C (Kd.int .u64) (W.setCell ⟨b, 0, none⟩ u) A n xs :=
  ⟨h.1, h.2.1, fun hn => by
    obtain ⟨ad, e, hc⟩ := h.2.2 hn
    refine ⟨ad, e, fun j q hj => ?_⟩
    obtain ⟨c, h1, h2, h3⟩ := hc j q hj
    refine ⟨c, h1, h2, fun i u' hu => ?_⟩
    have hne : (ad.add (j * (Kd.int .u64).sz + i)).block ≠ b := by rw [Rf.add_block]; exact hb hn ad e
    have hb2 := Below.heap_setCell W ⟨b, 0, none⟩ u (ad.add (j * (Kd.int .u64).sz + i)).block hne
    exact (World.cell?_of_block hb2).trans (h3 i u' hu)⟩
theorem V_of_C {W : World} {A : Option Addr} {c : Nat} {xs : List Int} {e base : Nat} {ok : Nat → Prop} (h : Kd.C (Kd.int .u64) W A xs.length xs) (hl : xs.length ≤ c) (hok : 0 < xs.length → ∀ ad, A = some ad → ok ad.block) : Kd.V (Kd.int .u64) e W base ok (.slice A xs.length c) xs :=
  Kd.V_mk hl fun W' hW => ⟨h.1, h.2.1, fun hn => by
    obtain ⟨ad, ea, hc⟩ := h.2.2 hn
    refine ⟨ad, ea, fun j q hj => ?_⟩
    obtain ⟨c', h1, h2, h3⟩ := hc j q hj
    refine ⟨c', h1, h2, fun i u hu => ?_⟩
    have hcell := h3 i u hu
    have hlt := World.block_lt_of_cell? W _ hcell
    rw [Rf.add_block] at hlt
    have hb := hW ad.block (hok hn ad ea) hlt
    refine (World.cell?_of_block ?_).trans hcell
    rw [Rf.add_block]
    exact hb⟩
theorem V_block {W : World} {A : Option Addr} {n c : Nat} {xs : List Int} {e base : Nat} {ok : Nat → Prop} (h : Kd.V (Kd.int .u64) e W base ok (.slice A n c) xs) : 0 < xs.length → ∀ ad, A = some ad → ok ad.block := by
  intro hn ad hA
  have hx := Kd.V_reads' h
  have hF := Kd.V_F h
  subst hA
  cases xs with
  | nil => exact absurd hn (by simp)
  | cons x r =>
    have hl := hx.1
    simp only [List.length_cons] at hl
    obtain ⟨_, _, he, _, _, _, hin⟩ := Kd.F_get hF x 0 (by omega) (by omega)
    injection he with he
    subst he
    exact hin (by decide)
/-- The slices in a row of rows. -/
theorem rows_vs {W : World} {A : Option Addr} {c e : Nat} {rows : List (List Int)} (h : Kd.C (Kd.slice e (Kd.int .u64)) W A rows.length rows) :
    ∃ vs : Nat → Value, Rg.Vs W.heap.size W (.slice A rows.length c) rows.length vs ∧ ∀ j, ∃ a c, vs j = .slice a (rows.getD j []).length c ∧ (rows.getD j []).length ≤ c ∧ Kd.C (Kd.int .u64) W a (rows.getD j []).length (rows.getD j []) := by
  have hex : ∀ j, ∃ v : Value, (∃ a c, v = .slice a (rows.getD j []).length c ∧ (rows.getD j []).length ≤ c ∧ Kd.C (Kd.int .u64) W a (rows.getD j []).length (rows.getD j [])) ∧ ∀ ad, A = some ad → j < rows.length → W.cell? (ad.add j) = some v := by
    intro j
    by_cases hj : j < rows.length
    · obtain ⟨ad, ea, hc⟩ := h.2.2 (by omega)
      obtain ⟨cs, h1, ⟨a, c', h2, h3, h4⟩, h5⟩ := hc j _ (List.getElem?_eq_getElem hj)
      have e1 : rows.getD j [] = rows[j] := by rw [List.getD_eq_getElem?_getD, List.getElem?_eq_getElem hj]; rfl
      rw [e1]
      refine ⟨_, ⟨a, c', rfl, h3, h4⟩, fun ad' ea' _ => ?_⟩
      rw [ea] at ea'
      cases ea'
      have := h5 0 (.slice a rows[j].length c') (by rw [h2]; rfl)
      simpa [show (Kd.slice e (Kd.int .u64)).sz = 1 from rfl] using this
    · have e1 : rows.getD j [] = [] := by rw [List.getD_eq_getElem?_getD, List.getElem?_eq_none (by omega)]; rfl
      rw [e1]
      exact ⟨.slice none 0 0, ⟨none, 0, rfl, Nat.le_refl _, Kd.C_nil _ _⟩, fun _ _ h' => absurd h' hj⟩
  refine ⟨fun j => Classical.choose (hex j), ?_, fun j => (Classical.choose_spec (hex j)).1⟩
  by_cases hn : 0 < rows.length
  · obtain ⟨ad, ea, hc⟩ := h.2.2 hn
    have hcell : ∀ j, j < rows.length → W.cell? (ad.add j) = some (Classical.choose (hex j)) := fun j hj => (Classical.choose_spec (hex j)).2 ad ea hj
    refine .inr ⟨ad, c, by rw [ea], ?_, hcell⟩
    have := World.block_lt_of_cell? W _ (hcell 0 hn)
    rwa [Rf.add_block] at this
  · have e : rows.length = 0 := by omega
    exact .inl ⟨A, c, by rw [e], e⟩
end Go.Proofs.Ytffcjgelcdilcaa.Rh

namespace Go.Proofs.Ytffcjgelcdilcaa.Rh
open Go.RowKit Go.Shelf Go.Proofs Go.Proofs.Ytffcjgelcdilcaa.PAll Go.Proofs.YtffcjgelcdilcaaW.PrintWords Go.Proofs.YtffcjgelcdilcaaW.PrintLast Go.Proofs.YtffcjgelcdilcaaW.PrintMore Go.Proofs.Ytffcjgelcdilcaa.Rf Go.Proofs.Ytffcjgelcdilcaa.Rd
attribute [local go_sem] Oper.semAt_some

def bz_T19 : Bool × List (List Nat × List Nat) := (true, [([], []), ([], []), ([], []), ([], []), ([], []), ([2, 3, 4], [2, 3, 4]), ([], []), ([6], [6]), ([1, 5, 7, 5], [1, 5, 7]), ([0, 8, 0, 1], [0]), ([8, 9, 0, 1, 2, 3, 4, 5, 6, 7, 8, 9], [8])])
def bz_B19 : List Nat := [0, 0, 0, 0, 0, 28, 0, 64, 254, 511, 1023]
theorem bz_tab19 : rtab .any (opsOf Try.f43 19) = bz_T19 := by kernel_rfl
theorem bz_bits19 : waitsOk bz_T19.2 bz_B19 = true := by kernel_rfl
set_option maxHeartbeats 8000000 in
set_option maxRecDepth 100000 in
theorem bz_round (k : Nat) (p : Int) (l mm : Nat) (Q : Exit → Act → World → Prop) (W : World) (Rb Sb Tb : Nat) (q s t m1 r1 : List Int) (Aq As At_ : Option Addr) (cq cs ct : Nat) {u0 u1 u2 u3 u4 u5 u6 u7 u8 u9 u11 u12 u13 u14 u15 u16 u19 u21 u22 u23 u24 u25 u26 u27 u28 u29 u30 u31 u32 u33 u34 u35 u36 u37 u38 u39 u40 u41 u42 u43 u44 u45 u46 u47 u48 u49 u50 u51 u52 u53 u54 u55 u56 u57 u58 u59 u60 u61 u62 u63 u64 u65 u66 u67 u68 u69 u70 u71 u72 u73 u74 u75 u76 u77 u78 u79 u80 u81 u82 u83 : Value}
    (hr : W.cell? ⟨Rb, 0, none⟩ = some (.int .u64 p)) (hs : W.cell? ⟨Sb, 0, none⟩ = some (.slice As s.length cs)) (ht : W.cell? ⟨Tb, 0, none⟩ = some (.slice At_ t.length ct)) (hfs : W.frozen? ⟨Sb, 0, none⟩ = false) (hft : W.frozen? ⟨Tb, 0, none⟩ = false) (hne : Sb ≠ Tb)
    (hq : Kd.C (Kd.int .u64) W Aq q.length q) (hqc : q.length ≤ cq) (hsC : Kd.C (Kd.int .u64) W As s.length s) (hsc : s.length ≤ cs) (htC : Kd.C (Kd.int .u64) W At_ t.length t) (htc : t.length ≤ ct)
    (h1 : poly_ring_times.f k p q t = some m1) (h2 : poly_each_sub.f k s m1 p = some r1)
    (hQo : ¬ LetsOut Q) (hQp : ∀ c a a' w, Q (.panic c) a w → Q (.panic c) a' w)
    (hQ : ∀ a' w2 uv, Below W.heap.size W w2 → Kd.V (Kd.int .u64) 22 w2 W.heap.size (fun k_ => W.heap.size ≤ k_) uv r1 → Q .normal a' ((w2.setCell ⟨Sb, 0, none⟩ (.slice At_ t.length ct)).setCell ⟨Tb, 0, none⟩ uv)) :
    (Code.region 19 (opsOf Try.f43 19) true).wpIn (Fence.wide.inRound l) mm Try.prog Q
      { tmps := #[u0, u1, u2, u3, u4, u5, u6, u7, u8, u9, .pointer (some ⟨Rb, 0, none⟩), u11, u12, u13, u14, u15, u16, .pointer (some ⟨Sb, 0, none⟩), .pointer (some ⟨Tb, 0, none⟩), u19, .slice Aq q.length cq, u21, u22, u23, u24, u25, u26, u27, u28, u29, u30, u31, u32, u33, u34, u35, u36, u37, u38, u39, u40, u41, u42, u43, u44, u45, u46, u47, u48, u49, u50, u51, u52, u53, u54, u55, u56, u57, u58, u59, u60, u61, u62, u63, u64, u65, u66, u67, u68, u69, u70, u71, u72, u73, u74, u75, u76, u77, u78, u79, u80, u81, u82, u83], defers := [] } W := by
  simp only [opsOf, Try.f43, opsIn, Option.bind_some, Option.bind, Option.getD, beq_iff_eq, if_true, if_false, Nat.reduceBEq, Bool.false_eq_true, Nat.reduceEqDiff]
  have hmf : ∀ (fn : Fn) (first cap : Array Value) (w : World), (Instr.makeFunc fn first cap).run Try.prog w = .ok (.func fn first cap) w := fun _ _ _ _ => rfl
  have HQ := Aside0.mk hQ
  have HC := Aside0.mk (And.intro hq (And.intro hsC htC))
  clear hQ hq hsC htC
  refine startR_ (n := 11) (S := fun w' => w'.cell? ⟨Rb, 0, none⟩ = some (.int .u64 p) ∧ w'.cell? ⟨Sb, 0, none⟩ = some (.slice As s.length cs) ∧ w'.cell? ⟨Tb, 0, none⟩ = some (.slice At_ t.length ct)) (ds := [9, 10]) #[false, false, false, false, false, false, false, false, false, false, false] (by kernel_rfl) (by kernel_rfl) hQo rfl rfl ⟨hr, hs, ht⟩ (fun hHeld => ?_)
  refine with_tabW bz_tab19 bz_bits19 (fun HT_ HW_ => ?_)
  refine take_ (i := 0) (N := some 69) (v := .slice At_ t.length ct) (a' := ?_) #[true, false, false, false, false, false, false, false, false, false, false] rfl rfl (take_ofW HT_.out HW_.out (by kernel_rfl)) (fun _ _ _ h => hQp _ _ _ _ h) (Or.inl ⟨by rfl, ?_⟩) hHeld ?_ ?_
  · intro w' s0
    obtain ⟨s1, s2, s3⟩ := s0
    go_simp
    try with_reducible rfl
  rotate_left
  · simp only [Act.put, List.setIfInBounds_toArray, List.set_cons_zero, List.set_cons_succ]
    rfl
  refine take_ (i := 1) (N := some 70) (v := .slice As s.length cs) (a' := ?_) #[true, true, false, false, false, false, false, false, false, false, false] rfl rfl (take_ofW HT_.out HW_.out (by kernel_rfl)) (fun _ _ _ h => hQp _ _ _ _ h) (Or.inl ⟨by rfl, ?_⟩) hHeld ?_ ?_
  · intro w' s0
    obtain ⟨s1, s2, s3⟩ := s0
    go_simp
    try with_reducible rfl
  rotate_left
  · simp only [Act.put, List.setIfInBounds_toArray, List.set_cons_zero, List.set_cons_succ]
    rfl
  refine take_ (i := 2) (N := some 71) (v := .int .u64 p) (a' := ?_) #[true, true, true, false, false, false, false, false, false, false, false] rfl rfl (take_ofW HT_.out HW_.out (by kernel_rfl)) (fun _ _ _ h => hQp _ _ _ _ h) (Or.inl ⟨by rfl, ?_⟩) hHeld ?_ ?_
  · intro w' s0
    obtain ⟨s1, s2, s3⟩ := s0
    go_simp
    try with_reducible rfl
  rotate_left
  · simp only [Act.put, List.setIfInBounds_toArray, List.set_cons_zero, List.set_cons_succ]
    rfl
  refine pure_ (i := 3) (N := some 72) (v := .slice Aq q.length cq) (a' := ?_) #[true, true, true, true, false, false, false, false, false, false, false] rfl rfl (any_of HT_.out (by kernel_rfl)) (fun _ _ _ h => hQp _ _ _ _ h) (Or.inl ⟨by rfl, ?_⟩) ?_ ?_
  · intro w'
    go_simp
    try with_reducible rfl
  rotate_left
  · simp only [Act.put, List.setIfInBounds_toArray, List.set_cons_zero, List.set_cons_succ]
    rfl
  refine take_ (i := 4) (N := some 73) (v := .slice At_ t.length ct) (a' := ?_) #[true, true, true, true, true, false, false, false, false, false, false] rfl rfl (take_ofW HT_.out HW_.out (by kernel_rfl)) (fun _ _ _ h => hQp _ _ _ _ h) (Or.inl ⟨by rfl, ?_⟩) hHeld ?_ ?_
  · intro w' s0
    obtain ⟨s1, s2, s3⟩ := s0
    go_simp
    try with_reducible rfl
  rotate_left
  · simp only [Act.put, List.setIfInBounds_toArray, List.set_cons_zero, List.set_cons_succ]
    rfl
  refine take_ (i := 6) (N := some 75) (v := .int .u64 p) (a' := ?_) #[true, true, true, true, true, false, true, false, false, false, false] rfl rfl (take_ofW HT_.out HW_.out (by kernel_rfl)) (fun _ _ _ h => hQp _ _ _ _ h) (Or.inl ⟨by rfl, ?_⟩) hHeld ?_ ?_
  · intro w' s0
    obtain ⟨s1, s2, s3⟩ := s0
    go_simp
    try with_reducible rfl
  rotate_left
  · simp only [Act.put, List.setIfInBounds_toArray, List.set_cons_zero, List.set_cons_succ]
    rfl
  refine pure_ (i := 7) (N := some 76) (v := .func (.func 70) #[.int .u64 p] #[]) (a' := ?_) #[true, true, true, true, true, false, true, true, false, false, false] rfl rfl (any_of HT_.out (by kernel_rfl)) (fun _ _ _ h => hQp _ _ _ _ h) (Or.inl ⟨by rfl, ?_⟩) ?_ ?_
  · intro w'
    go_simp
    try with_reducible rfl
  rotate_left
  · simp only [Act.put, List.setIfInBounds_toArray, List.set_cons_zero, List.set_cons_succ]
    rfl
  refine one_ (i := 5) (N := some 74) #[true, true, true, true, true, true, true, true, false, false, false] rfl rfl (one_of HT_.out (by kernel_rfl)) (by decide) (fun K hK => ?_)
  refine goes_ Try.func63 (by kernel_rfl) rfl #[.int .u64 p, .slice Aq q.length cq, .slice At_ t.length ct] (by rfl) rfl rfl (by (try simp only [List.map_toArray, List.map_cons, List.map_nil]); first | done | rfl) ?_
  have hb0 : Below W.heap.size W W.drew := (Below.refl _ _).drew
  refine (poly_ring_times.calls k p _ _ q _ _ t m1 _ (Kd.C_below HC.out.1 hb0) hqc (Kd.C_below HC.out.2.2 hb0) htc h1).mono ?_
  rintro e w1 ⟨mv, rfl, hm, hb1⟩
  have hb01 : Below W.heap.size W w1 := hb0.trans hb1
  have hHeld1 : w1.cell? ⟨Rb, 0, none⟩ = some (.int .u64 p) ∧ w1.cell? ⟨Sb, 0, none⟩ = some (.slice As s.length cs) ∧ w1.cell? ⟨Tb, 0, none⟩ = some (.slice At_ t.length ct) :=
    ⟨(hb01.cell (World.block_lt_of_cell? _ _ hr)).trans hr, (hb01.cell (World.block_lt_of_cell? _ _ hs)).trans hs, (hb01.cell (World.block_lt_of_cell? _ _ ht)).trans ht⟩
  obtain ⟨Am, cm, em⟩ := Kd.V_slice hm
  subst em
  refine ⟨_, rfl, hK.out _ _ hHeld1 (fun hHeld => ?_)⟩
  clear hK K
  refine norm_ (a' := ?_) ?_ ?_
  rotate_left
  · show Act.put _ (some 74) _ = _
    simp only [Act.put, List.setIfInBounds_toArray, List.set_cons_zero, List.set_cons_succ]
    rfl
  refine one_ (i := 8) (N := some 77) #[true, true, true, true, true, true, true, true, true, false, false] rfl rfl (one_of HT_.out (by kernel_rfl)) (by decide) (fun K hK => ?_)
  refine goes_ Try.func68 (by kernel_rfl) rfl #[.slice As s.length cs, .slice Am m1.length cm, .func (.func 70) #[.int .u64 p] #[]] (by rfl) rfl rfl (by (try simp only [List.map_toArray, List.map_cons, List.map_nil]); first | done | rfl) ?_
  refine (poly_each_sub.calls k _ _ s _ _ m1 p r1 _ (Kd.C_below HC.out.2.1 hb01) hsc (Kd.V_reads' hm).2.2 (Kd.V_reads' hm).2.1 h2).mono ?_
  rintro e w2 ⟨uv, rfl, hu, hb2⟩
  have hb02 : Below W.heap.size W w2 := hb01.trans (hb2.mono hb01.size)
  have hHeld2 : w2.cell? ⟨Rb, 0, none⟩ = some (.int .u64 p) ∧ w2.cell? ⟨Sb, 0, none⟩ = some (.slice As s.length cs) ∧ w2.cell? ⟨Tb, 0, none⟩ = some (.slice At_ t.length ct) :=
    ⟨(hb02.cell (World.block_lt_of_cell? _ _ hr)).trans hr, (hb02.cell (World.block_lt_of_cell? _ _ hs)).trans hs, (hb02.cell (World.block_lt_of_cell? _ _ ht)).trans ht⟩
  have hfs2 : w2.frozen? ⟨Sb, 0, none⟩ = false := (hb02.frozen (World.block_lt_of_cell? _ _ hs)).trans hfs
  have hft2 : w2.frozen? ⟨Tb, 0, none⟩ = false := (hb02.frozen (World.block_lt_of_cell? _ _ ht)).trans hft
  refine ⟨_, rfl, hK.out _ _ hHeld2 (fun hHeld => ?_)⟩
  clear hK K
  refine norm_ (a' := ?_) ?_ ?_
  rotate_left
  · show Act.put _ (some 77) _ = _
    simp only [Act.put, List.setIfInBounds_toArray, List.set_cons_zero, List.set_cons_succ]
    rfl
  have hu' : Kd.V (Kd.int .u64) 22 w2 W.heap.size (fun k_ => W.heap.size ≤ k_) uv r1 := Kd.V_mono hu (fun k_ hk => Nat.le_trans hb01.size hk)
  obtain ⟨Au, cu, eu⟩ := Kd.V_slice hu
  subst eu
  have HF := HQ.out
  obtain ⟨hx1, hx2, hx3⟩ := hHeld
  refine last_ (i := 9) (N := none) #[true, true, true, true, true, true, true, true, true, true, false] rfl rfl (one_of HT_.out (by kernel_rfl)) (by decide) (fun K hK => ?_)
  refine skip_ (w1 := w2.setCell ⟨Sb, 0, none⟩ (.slice At_ t.length ct)) (by rfl) rfl ?_ ?_
  · go_simp
    try rfl
  refine hK.out _ _ ?_
  clear hK K
  have hx3' : (w2.setCell ⟨Sb, 0, none⟩ (.slice At_ t.length ct)).cell? ⟨Tb, 0, none⟩ = some (.slice At_ t.length ct) := by
    rw [World.cell?_setCell_other _ _ _ _ (by intro e; injection e with e1; exact hne e1)]
    exact hx3
  have hft3 : (w2.setCell ⟨Sb, 0, none⟩ (.slice At_ t.length ct)).frozen? ⟨Tb, 0, none⟩ = false := by rw [World.frozen?_setCell]; exact hft2
  refine last_ (i := 10) (N := none) #[true, true, true, true, true, true, true, true, true, true, true] rfl rfl (one_of HT_.out (by kernel_rfl)) (by decide) (fun K hK => ?_)
  refine skip_ (w1 := (w2.setCell ⟨Sb, 0, none⟩ (.slice At_ t.length ct)).setCell ⟨Tb, 0, none⟩ (.slice Au r1.length cu)) (by rfl) rfl ?_ ?_
  · go_simp
    try rfl
  refine hK.out _ _ ?_
  clear hK K
  refine done_ (done_of HT_.out (by kernel_rfl)) ?_
  exact HF _ _ _ hb02 hu'
end Go.Proofs.Ytffcjgelcdilcaa.Rh

namespace Go.Proofs.Ytffcjgelcdilcaa.Rh
open Go.RowKit Go.Proofs Go.Proofs.Ytffcjgelcdilcaa.PAll Go.Proofs.YtffcjgelcdilcaaW.PrintWords Go.Proofs.YtffcjgelcdilcaaW.PrintLast Go.Proofs.YtffcjgelcdilcaaW.PrintMore Go.Proofs.Ytffcjgelcdilcaa.Rd

def bz_T20 : Bool × List (List Nat × List Nat) := (true, [([], []), ([], []), ([], []), ([0, 1, 2], [0, 1, 2]), ([], []), ([], []), ([3, 3, 0, 1, 2, 3], [3]), ([4, 6, 0, 1, 2, 3, 4, 6], [4]), ([5, 7, 0, 1, 2, 3, 4, 5, 6, 7], [5]), ([8, 0, 1, 2, 3, 4, 5, 6, 7, 8], [])])
def bz_B20 : List Nat := [0, 0, 0, 7, 0, 0, 15, 95, 255, 511]
theorem bz_tab20 : rtab .any (opsOf Try.f43 20) = bz_T20 := by kernel_rfl
theorem bz_bits20 : waitsOk bz_T20.2 bz_B20 = true := by kernel_rfl
set_option maxHeartbeats 8000000 in
set_option maxRecDepth 100000 in
theorem bz_last (k : Nat) (p c : Int) (D : List Deferred) (Q : Exit → Act → World → Prop) (W : World) (Rb Sb Tb : Nat) (x s t g : List Int) (Aa As At_ : Option Addr) (ca cs ct : Nat) {u0 u2 u3 u4 u5 u6 u7 u8 u9 u11 u12 u13 u14 u16 u19 u20 u21 u22 u23 u24 u25 u26 u27 u28 u29 u30 u31 u32 u33 u34 u35 u36 u37 u38 u39 u40 u41 u42 u43 u44 u45 u46 u47 u48 u49 u50 u51 u52 u53 u54 u55 u56 u57 u58 u59 u60 u61 u62 u63 u64 u65 u66 u67 u68 u69 u70 u71 u72 u73 u74 u75 u76 u77 u78 u79 u80 u81 u82 u83 : Value}
    (hr : W.cell? ⟨Rb, 0, none⟩ = some (.int .u64 p)) (hs : W.cell? ⟨Sb, 0, none⟩ = some (.slice As s.length cs)) (ht : W.cell? ⟨Tb, 0, none⟩ = some (.slice At_ t.length ct))
    (hx : Kd.C (Kd.int .u64) W Aa x.length x) (hxc : x.length ≤ ca) (h1 : poly_ring_scaled.f k p x c = some g)
    (hQ : ∀ w2 gv, Below W.heap.size W w2 → Kd.V (Kd.int .u64) 22 w2 W.heap.size (fun k_ => W.heap.size ≤ k_) gv g → Q .normal { tmps := #[u0, .slice Aa x.length ca, u2, u3, u4, u5, gv, .slice As s.length cs, .slice At_ t.length ct, .int .i64 0, .pointer (some ⟨Rb, 0, none⟩), u11, u12, u13, u14, .int .u64 c, u16, .pointer (some ⟨Sb, 0, none⟩), .pointer (some ⟨Tb, 0, none⟩), u19, u20, u21, u22, u23, u24, u25, u26, u27, u28, u29, u30, u31, u32, u33, u34, u35, u36, u37, u38, u39, u40, u41, u42, u43, u44, u45, u46, u47, u48, u49, u50, u51, u52, u53, u54, u55, u56, u57, u58, u59, u60, u61, u62, u63, u64, u65, u66, u67, u68, u69, u70, u71, u72, u73, u74, u75, u76, u77, .int .u64 p, .slice Aa x.length ca, .int .u64 c, gv, .slice As s.length cs, .slice At_ t.length ct], defers := D } w2) :
    (Code.region 20 (opsOf Try.f43 20) true).wp Try.prog Q
      { tmps := #[u0, .slice Aa x.length ca, u2, u3, u4, u5, u6, u7, u8, u9, .pointer (some ⟨Rb, 0, none⟩), u11, u12, u13, u14, .int .u64 c, u16, .pointer (some ⟨Sb, 0, none⟩), .pointer (some ⟨Tb, 0, none⟩), u19, u20, u21, u22, u23, u24, u25, u26, u27, u28, u29, u30, u31, u32, u33, u34, u35, u36, u37, u38, u39, u40, u41, u42, u43, u44, u45, u46, u47, u48, u49, u50, u51, u52, u53, u54, u55, u56, u57, u58, u59, u60, u61, u62, u63, u64, u65, u66, u67, u68, u69, u70, u71, u72, u73, u74, u75, u76, u77, u78, u79, u80, u81, u82, u83], defers := D } W := by
  simp only [opsOf, Try.f43, opsIn, Option.bind_some, Option.bind, Option.getD, beq_iff_eq, if_true, if_false, Nat.reduceBEq, Bool.false_eq_true, Nat.reduceEqDiff]
  refine Code.wp_mono (Q := fun e a w2 => e = .normal ∧ ∃ gv, a = { tmps := #[u0, .slice Aa x.length ca, u2, u3, u4, u5, gv, .slice As s.length cs, .slice At_ t.length ct, .int .i64 0, .pointer (some ⟨Rb, 0, none⟩), u11, u12, u13, u14, .int .u64 c, u16, .pointer (some ⟨Sb, 0, none⟩), .pointer (some ⟨Tb, 0, none⟩), u19, u20, u21, u22, u23, u24, u25, u26, u27, u28, u29, u30, u31, u32, u33, u34, u35, u36, u37, u38, u39, u40, u41, u42, u43, u44, u45, u46, u47, u48, u49, u50, u51, u52, u53, u54, u55, u56, u57, u58, u59, u60, u61, u62, u63, u64, u65, u66, u67, u68, u69, u70, u71, u72, u73, u74, u75, u76, u77, .int .u64 p, .slice Aa x.length ca, .int .u64 c, gv, .slice As s.length cs, .slice At_ t.length ct], defers := D } ∧ Below W.heap.size W w2 ∧ Kd.V (Kd.int .u64) 22 w2 W.heap.size (fun k_ => W.heap.size ≤ k_) gv g) ?_ ?_
  · rintro e a w2 ⟨rfl, gv, rfl, hb, hv⟩
    exact hQ w2 gv hb hv
  have HC := Aside0.mk hx
  clear hQ hx
  refine start_ (n := 10) (S := fun w' => w'.cell? ⟨Rb, 0, none⟩ = some (.int .u64 p) ∧ w'.cell? ⟨Sb, 0, none⟩ = some (.slice As s.length cs) ∧ w'.cell? ⟨Tb, 0, none⟩ = some (.slice At_ t.length ct)) (ds := []) #[false, false, false, false, false, false, false, false, false, false] (by kernel_rfl) rfl rfl ⟨hr, hs, ht⟩ (fun hHeld => ?_)
  refine with_tabW bz_tab20 bz_bits20 (fun HT_ HW_ => ?_)
  refine take_ (i := 0) (N := some 78) (v := .int .u64 p) (a' := ?_) #[true, false, false, false, false, false, false, false, false, false] rfl rfl (take_ofW HT_.out HW_.out (by kernel_rfl)) (fun _ _ _ h => by cases h.1) (Or.inl ⟨by rfl, ?_⟩) hHeld ?_ ?_
  · intro w' s0
    obtain ⟨s1, s2, s3⟩ := s0
    go_simp
    try with_reducible rfl
  rotate_left
  · simp only [Act.put, List.setIfInBounds_toArray, List.set_cons_zero, List.set_cons_succ]
    rfl
  refine pure_ (i := 1) (N := some 79) (v := .slice Aa x.length ca) (a' := ?_) #[true, true, false, false, false, false, false, false, false, false] rfl rfl (any_of HT_.out (by kernel_rfl)) (fun _ _ _ h => by cases h.1) (Or.inl ⟨by rfl, ?_⟩) ?_ ?_
  · intro w'
    go_simp
    try with_reducible rfl
  rotate_left
  · simp only [Act.put, List.setIfInBounds_toArray, List.set_cons_zero, List.set_cons_succ]
    rfl
  refine pure_ (i := 2) (N := some 80) (v := .int .u64 c) (a' := ?_) #[true, true, true, false, false, false, false, false, false, false] rfl rfl (any_of HT_.out (by kernel_rfl)) (fun _ _ _ h => by cases h.1) (Or.inl ⟨by rfl, ?_⟩) ?_ ?_
  · intro w'
    go_simp
    try with_reducible rfl
  rotate_left
  · simp only [Act.put, List.setIfInBounds_toArray, List.set_cons_zero, List.set_cons_succ]
    rfl
  refine take_ (i := 4) (N := some 82) (v := .slice As s.length cs) (a' := ?_) #[true, true, true, false, true, false, false, false, false, false] rfl rfl (take_ofW HT_.out HW_.out (by kernel_rfl)) (fun _ _ _ h => by cases h.1) (Or.inl ⟨by rfl, ?_⟩) hHeld ?_ ?_
  · intro w' s0
    obtain ⟨s1, s2, s3⟩ := s0
    go_simp
    try with_reducible rfl
  rotate_left
  · simp only [Act.put, List.setIfInBounds_toArray, List.set_cons_zero, List.set_cons_succ]
    rfl
  refine take_ (i := 5) (N := some 83) (v := .slice At_ t.length ct) (a' := ?_) #[true, true, true, false, true, true, false, false, false, false] rfl rfl (take_ofW HT_.out HW_.out (by kernel_rfl)) (fun _ _ _ h => by cases h.1) (Or.inl ⟨by rfl, ?_⟩) hHeld ?_ ?_
  · intro w' s0
    obtain ⟨s1, s2, s3⟩ := s0
    go_simp
    try with_reducible rfl
  rotate_left
  · simp only [Act.put, List.setIfInBounds_toArray, List.set_cons_zero, List.set_cons_succ]
    rfl
  refine one_ (i := 3) (N := some 81) #[true, true, true, true, true, true, false, false, false, false] rfl rfl (one_of HT_.out (by kernel_rfl)) (by decide) (fun K hK => ?_)
  refine goes_ Try.func67 (by kernel_rfl) rfl #[.int .u64 p, .slice Aa x.length ca, .int .u64 c] (by rfl) rfl rfl (by (try simp only [List.map_toArray, List.map_cons, List.map_nil]); first | done | rfl) ?_
  have hb0 : Below W.heap.size W W.drew := (Below.refl _ _).drew
  refine (poly_ring_scaled.calls k p _ _ x c g _ (Kd.C_below HC.out hb0) hxc h1).mono ?_
  rintro e w1 ⟨gv, rfl, hg, hb1⟩
  have hb01 : Below W.heap.size W w1 := hb0.trans hb1
  have hHeld1 : w1.cell? ⟨Rb, 0, none⟩ = some (.int .u64 p) ∧ w1.cell? ⟨Sb, 0, none⟩ = some (.slice As s.length cs) ∧ w1.cell? ⟨Tb, 0, none⟩ = some (.slice At_ t.length ct) :=
    ⟨(hb01.cell (World.block_lt_of_cell? _ _ hr)).trans hr, (hb01.cell (World.block_lt_of_cell? _ _ hs)).trans hs, (hb01.cell (World.block_lt_of_cell? _ _ ht)).trans ht⟩
  refine ⟨_, rfl, hK.out _ _ hHeld1 (fun hHeld => ?_)⟩
  clear hK K
  refine norm_ (a' := ?_) ?_ ?_
  rotate_left
  · show Act.put _ (some 81) _ = _
    simp only [Act.put, List.setIfInBounds_toArray, List.set_cons_zero, List.set_cons_succ]
    rfl
  refine pure_ (i := 6) (N := some 6) (v := gv) (a' := ?_) #[true, true, true, true, true, true, true, false, false, false] rfl rfl (any_of HT_.out (by kernel_rfl)) (fun _ _ _ h => by cases h.1) (Or.inl ⟨by rfl, ?_⟩) ?_ ?_
  · intro w'
    go_simp
    try with_reducible rfl
  rotate_left
  · simp only [Act.put, List.setIfInBounds_toArray, List.set_cons_zero, List.set_cons_succ]
    rfl
  refine pure_ (i := 7) (N := some 7) (v := .slice As s.length cs) (a' := ?_) #[true, true, true, true, true, true, true, true, false, false] rfl rfl (any_of HT_.out (by kernel_rfl)) (fun _ _ _ h => by cases h.1) (Or.inl ⟨by rfl, ?_⟩) ?_ ?_
  · intro w'
    go_simp
    try with_reducible rfl
  rotate_left
  · simp only [Act.put, List.setIfInBounds_toArray, List.set_cons_zero, List.set_cons_succ]
    rfl
  refine pure_ (i := 8) (N := some 8) (v := .slice At_ t.length ct) (a' := ?_) #[true, true, true, true, true, true, true, true, true, false] rfl rfl (any_of HT_.out (by kernel_rfl)) (fun _ _ _ h => by cases h.1) (Or.inl ⟨by rfl, ?_⟩) ?_ ?_
  · intro w'
    go_simp
    try with_reducible rfl
  rotate_left
  · simp only [Act.put, List.setIfInBounds_toArray, List.set_cons_zero, List.set_cons_succ]
    rfl
  refine pure_ (i := 9) (N := some 9) (v := .int .i64 0) (a' := ?_) #[true, true, true, true, true, true, true, true, true, true] rfl rfl (any_of HT_.out (by kernel_rfl)) (fun _ _ _ h => by cases h.1) (Or.inl ⟨by rfl, ?_⟩) ?_ ?_
  · intro w'
    go_simp
    try with_reducible rfl
  rotate_left
  · simp only [Act.put, List.setIfInBounds_toArray, List.set_cons_zero, List.set_cons_succ]
    rfl
  refine done_ (done_of HT_.out (by kernel_rfl)) ?_
  exact ⟨rfl, gv, rfl, hb01, hg⟩
end Go.Proofs.Ytffcjgelcdilcaa.Rh

namespace Go.Proofs.Ytffcjgelcdilcaa.Rh
open Go.RowKit Go.Shelf Go.Proofs Go.Proofs.Ytffcjgelcdilcaa.Spec Fp Go.Proofs.Ytffcjgelcdilcaa.PAll Go.Proofs.YtffcjgelcdilcaaW.PrintWords Go.Proofs.YtffcjgelcdilcaaW.PrintLast Go.Proofs.YtffcjgelcdilcaaW.PrintMore Go.Proofs.Ytffcjgelcdilcaa.Rf Go.Proofs.Ytffcjgelcdilcaa.Rd
attribute [local go_sem] Oper.semAt_some

theorem retM {F : Fence} {n : Nat} {P : Program} {fn : Func} {R : Ending → World → Prop} {a : Act} {w : World} {v : Value} (hr : (results fn a.tmps).run P w = .ok v w) (hd : a.defers = []) (hR : R (.returned v) w) : bodyPostM F n P fn R .ret a w := by
  show LeavesInM F n P fn a.tmps R a.defers .returning w
  rw [hd]
  exact ⟨_, hr, hR⟩
theorem cell_grown {W W1 : World} {row : Option Nat} {k : Nat} {v : Value} (h : W.cell? ⟨k, 0, none⟩ = some v) (hg : W.grownBy W1 row) (hne : some k ≠ row) : W1.cell? ⟨k, 0, none⟩ = some v := by
  have h1 := hg.block k (World.block_lt_of_cell? W _ h) hne
  rw [← h]
  unfold World.cell?
  rw [h1]

theorem drawn_sz {w w1 : World} (h : Drawn0 w w1) : w1.heap.size = w.heap.size := by
  obtain ⟨nd, rfl⟩ := h
  rfl

theorem box_lt {W : World} {b : Nat} {v : Value} (h : W.cell? ⟨b, 0, none⟩ = some v) : b + 1 ≤ W.heap.size := World.block_lt_of_cell? W _ h

theorem info23 : (Try.prog.info? 23).map (fun i => (i.zero, i.size, i.bytes)) = some (some (.slice none 0 0), 1, 24) := by kernel_rfl

theorem C_one' {W : World} {B : Nat} {x : Int} (h : W.cell? ⟨B, 0, none⟩ = some (.int .u64 x)) : Kd.C (Kd.int .u64) W (some ⟨B, 0, none⟩) [x].length [x] := by
  refine ⟨rfl, by simp, fun _ => ⟨⟨B, 0, none⟩, rfl, ?_⟩⟩
  intro j q hj
  cases j with
  | zero =>
    simp at hj
    subst hj
    refine ⟨[.int .u64 x], rfl, rfl, ?_⟩
    intro i u hi
    cases i with
    | zero => simp at hi; subst hi; simpa [Addr.add] using h
    | succ i => simp at hi
  | succ j => simp at hj
theorem _root_.Go.Proofs.Ytffcjgelcdilcaa.Rg.Vs.mono' {n m : Nat} {W : World} {sv : Value} {len : Nat} {vs : Nat → Value} (hm : n ≤ m) : Rg.Vs n W sv len vs → Rg.Vs m W sv len vs
  | .inl h => .inl h
  | .inr ⟨ad, cap, e, hb, hc⟩ => .inr ⟨ad, cap, e, Nat.lt_of_lt_of_le hb hm, hc⟩
theorem keepsOthers_of_below' {W W' : World} (h : Below W.heap.size W W') : KeepsOthers W W' :=
  ⟨h.size, fun b o ho _ => (h.block b (Array.getElem?_eq_some_iff.1 ho).1).trans ho⟩
/-- The two variables hold the two polynomials. -/
def StI (B Sb Tb : Nat) (st : List Int × List Int) (W : World) : Prop :=
  ∃ (As At_ : Option Addr) (cs ct : Nat), W.cell? ⟨Sb, 0, none⟩ = some (.slice As st.1.length cs) ∧ W.cell? ⟨Tb, 0, none⟩ = some (.slice At_ st.2.length ct) ∧ W.frozen? ⟨Sb, 0, none⟩ = false ∧ W.frozen? ⟨Tb, 0, none⟩ = false ∧
    st.1.length ≤ cs ∧ Kd.C (Kd.int .u64) W As st.1.length st.1 ∧ (0 < st.1.length → ∀ ad, As = some ad → B ≤ ad.block ∧ ad.block ≠ Sb ∧ ad.block ≠ Tb) ∧
    st.2.length ≤ ct ∧ Kd.C (Kd.int .u64) W At_ st.2.length st.2 ∧ (0 < st.2.length → ∀ ad, At_ = some ad → B ≤ ad.block ∧ ad.block ≠ Sb ∧ ad.block ≠ Tb)
theorem StI.kept {B Sb Tb : Nat} {st : List Int × List Int} {W W' : World} {row : Option Nat} (h : StI B Sb Tb st W) (hg : W.grownBy W' row) (hr : ∀ r, row = some r → ∃ o : Obj, W.heap[r]? = some o ∧ o.isCells = false) : StI B Sb Tb st W' := by
  obtain ⟨As, At_, cs, ct, h1, h2, h3, h4, h5, h6, h7, h8, h9, h10⟩ := h
  exact ⟨As, At_, cs, ct, Go.cell_kept h1 hg hr, Go.cell_kept h2 hg hr, (Go.frozen_kept h1 hg hr).trans h3, (Go.frozen_kept h2 hg hr).trans h4, h5, C_kept h6 hg hr, h7, h8, C_kept h9 hg hr, h10⟩

theorem bz_post {B Sb Tb n0 Bs : Nat} {W w2 : World} {s t u : List Int} {As At_ : Option Addr} {cs ct : Nat} {uv : Value} {e : Nat} (h1 : W.cell? ⟨Sb, 0, none⟩ = some (.slice As s.length cs)) (h2 : W.cell? ⟨Tb, 0, none⟩ = some (.slice At_ t.length ct))
    (h3 : W.frozen? ⟨Sb, 0, none⟩ = false) (h4 : W.frozen? ⟨Tb, 0, none⟩ = false) (h8 : t.length ≤ ct) (h9 : Kd.C (Kd.int .u64) W At_ t.length t) (h10 : 0 < t.length → ∀ ad, At_ = some ad → B ≤ ad.block ∧ ad.block ≠ Sb ∧ ad.block ≠ Tb)
    (hne : Sb ≠ Tb) (hnS : n0 ≤ Sb) (hnT : n0 ≤ Tb) (hBs : Bs ≠ Sb) (hBt : Bs ≠ Tb) (hB : B ≤ W.heap.size) (hb : Below W.heap.size W w2) (hu : Kd.V (Kd.int .u64) e w2 W.heap.size (fun k_ => W.heap.size ≤ k_) uv u) :
    StI B Sb Tb (t, u) ((w2.setCell ⟨Sb, 0, none⟩ (.slice At_ t.length ct)).setCell ⟨Tb, 0, none⟩ uv) ∧ KB n0 Bs W ((w2.setCell ⟨Sb, 0, none⟩ (.slice At_ t.length ct)).setCell ⟨Tb, 0, none⟩ uv) ∧ KeepsOthers W ((w2.setCell ⟨Sb, 0, none⟩ (.slice At_ t.length ct)).setCell ⟨Tb, 0, none⟩ uv) := by
  obtain ⟨Au, cu, eu⟩ := Kd.V_slice hu
  subst eu
  have l1 := World.block_lt_of_cell? W _ h1
  have l2 := World.block_lt_of_cell? W _ h2
  have l1' : Sb < W.heap.size := l1
  have l2' : Tb < W.heap.size := l2
  have c1 := (hb.cell l1).trans h1
  have c2 := (hb.cell l2).trans h2
  have f1 := (hb.frozen l1).trans h3
  have f2 := (hb.frozen l2).trans h4
  have far : ∀ (b : Nat) (v : Value), b ≠ Sb → b ≠ Tb → w2.cell? ⟨b, 0, none⟩ = some v → ((w2.setCell ⟨Sb, 0, none⟩ (.slice At_ t.length ct)).setCell ⟨Tb, 0, none⟩ (.slice Au u.length cu)).cell? ⟨b, 0, none⟩ = some v := by
    intro b v n1 n2 hv
    rw [World.cell?_setCell_other _ _ _ _ (by intro e; injection e with e1; exact n2 e1.symm), World.cell?_setCell_other _ _ _ _ (by intro e; injection e with e1; exact n1 e1.symm)]
    exact hv
  refine ⟨⟨At_, Au, ct, cu, ?_, ?_, ?_, ?_, h8, ?_, h10, (Kd.V_reads' hu).2.1, ?_, ?_⟩, ⟨?_, ?_⟩, ?_⟩
  · rw [World.cell?_setCell_other _ _ _ _ (by intro e; injection e with e1; exact hne e1.symm)]
    exact World.cell?_setCell_same' _ _ _ (by rw [c1]; rfl)
  · refine World.cell?_setCell_same' _ _ _ ?_
    rw [World.cell?_setCell_other _ _ _ _ (by intro e; injection e with e1; exact hne e1), c2]
    rfl
  · rw [World.frozen?_setCell, World.frozen?_setCell]
    exact f1
  · rw [World.frozen?_setCell, World.frozen?_setCell]
    exact f2
  · exact C_set (C_set (Kd.C_below h9 hb) (fun hn ad e => (h10 hn ad e).2.1) _) (fun hn ad e => (h10 hn ad e).2.2) _
  · have hv := V_block hu
    exact C_set (C_set (Kd.V_reads' hu).2.2 (fun hn ad e => by have := hv hn ad e; omega) _) (fun hn ad e => by have := hv hn ad e; omega) _
  · intro hn ad e
    have := V_block hu hn ad e
    omega
  · exact ((hb.mono (by omega)).setCell (p := ⟨Sb, 0, none⟩) hnS _).setCell (p := ⟨Tb, 0, none⟩) hnT _
  · intro v hv
    exact far Bs v hBs hBt ((hb.cell (World.block_lt_of_cell? _ _ hv)).trans hv)
  · exact ((keepsOthers_of_below' hb).trans (KeepsOthers.setCell _ _ _)).trans (KeepsOthers.setCell _ _ _)

/-! ### bz: function 43 -/
def bz.l0 : Nat → Int → List Int → List Int → Int → List (List Int) → Option (List Int × List Int × List Int × Int)
  | 0, _, _, _, _, _ => none
  | k + 1, x0, x1, x2, x10, x11 => if (x2.length : Int) > 0 then ((poly_Div.f k x0 x1 x2).bind fun bt234 => (if bt234.2.2 = 0 then (if x11.length < 5864062014805 then (bz.l0 k x0 x2 bt234.2.1 x10 (x11 ++ [bt234.1])) else (none)) else (some (([] : List Int), ([] : List Int), ([] : List Int), bt234.2.2)))) else (if (x1.length : Int) = 0 then (some (([] : List Int), ([] : List Int), ([] : List Int), 0)) else (if 0 ≤ (wrap64 ((x1.length : Int) - 1)) then (if (wrap64 ((x1.length : Int) - 1)) < (x1.length : Int) then ((field_Inv.f k x0 (rd x1 (wrap64 ((x1.length : Int) - 1)))).bind fun bt245 => (if bt245.2 = 0 then (if okR x0 x11 bt245.1 = true then ((back k x0 x11.reverse [bt245.1] []).bind fun st => ((poly_ring_scaled.f k x10 x1 bt245.1).bind fun t250 => (some (t250, st.1, st.2, 0)))) else (none)) else (some (([] : List Int), ([] : List Int), ([] : List Int), 5)))) else (none)) else (none)))
def bz.f (k : Nat) (a0 : Int) (l1 : List Int) (l2 : List Int) : Option (List Int × List Int × List Int × Int) := (poly_both.f k a0 l1 l2).bind fun t233 => (if t233 = true then (bz.l0 k a0 l1 l2 a0 ([] : List (List Int))) else (some (([] : List Int), ([] : List Int), ([] : List Int), 1)))
theorem bz.mono_l : ∀ k, (∀ y0 y1 y2 y3 y4, LeO (bz.l0 k y0 y1 y2 y3 y4) (bz.l0 (k + 1) y0 y1 y2 y3 y4))
  | 0 => fun _ _ _ _ _ r h => by simp [bz.l0] at h
  | k + 1 => by
    have ih0 := bz.mono_l k
    · intro y0 y1 y2 y3 y4
      unfold bz.l0
      repeat' first
      | (with_reducible exact ih0 _ _ _ _ _)
      | (with_reducible exact field_Inv.mono _ _ _)
      | (with_reducible exact poly_Div.mono _ _ _ _)
      | (with_reducible exact poly_both.mono _ _ _ _)
      | (with_reducible exact poly_ring_scaled.mono _ _ _ _)
      | (with_reducible exact back.mono _ _ _ _ _)
      | (with_reducible exact LeO.refl _)
      | (with_reducible exact LeO.none _)
      | (with_reducible refine LeO.ite ?_ ?_)
      | (with_reducible refine LeO.bind ?_ (fun _ => ?_))
      | exact ih0 _ _ _ _ _
      | exact field_Inv.mono _ _ _
      | exact poly_Div.mono _ _ _ _
      | exact poly_both.mono _ _ _ _
      | exact poly_ring_scaled.mono _ _ _ _
      | exact LeO.none _
      | refine LeO.ite ?_ ?_
      | refine LeO.bind ?_ (fun _ => ?_)
theorem bz.mono : ∀ a0 a1 a2 k, LeO (bz.f k a0 a1 a2) (bz.f (k + 1) a0 a1 a2) := by
  intro a0 a1 a2 k
  have ih0 := bz.mono_l k
  unfold bz.f
  repeat' first
      | (with_reducible exact ih0 _ _ _ _ _)
      | (with_reducible exact field_Inv.mono _ _ _)
      | (with_reducible exact poly_Div.mono _ _ _ _)
      | (with_reducible exact poly_both.mono _ _ _ _)
      | (with_reducible exact poly_ring_scaled.mono _ _ _ _)
      | (with_reducible exact back.mono _ _ _ _ _)
      | (with_reducible exact LeO.refl _)
      | (with_reducible exact LeO.none _)
      | (with_reducible refine LeO.ite ?_ ?_)
      | (with_reducible refine LeO.bind ?_ (fun _ => ?_))
      | exact ih0 _ _ _ _ _
      | exact field_Inv.mono _ _ _
      | exact poly_Div.mono _ _ _ _
      | exact poly_both.mono _ _ _ _
      | exact poly_ring_scaled.mono _ _ _ _
      | exact LeO.none _
      | refine LeO.ite ?_ ?_
      | refine LeO.bind ?_ (fun _ => ?_)
def bz.T20 : Bool × List (List Nat × List Nat) := (true, [([], []), ([], []), ([], []), ([0, 1, 2], [0, 1, 2]), ([], []), ([], []), ([3, 3, 0, 1, 2, 3], [3]), ([4, 6, 0, 1, 2, 3, 4, 6], [4]), ([5, 7, 0, 1, 2, 3, 4, 5, 6, 7], [5]), ([8, 0, 1, 2, 3, 4, 5, 6, 7, 8], [])])
def bz.B20 : List Nat := [0, 0, 0, 7, 0, 0, 15, 95, 255, 511]
theorem bz.tab20 : rtab .any (opsOf Try.f43 20) = bz.T20 := by kernel_rfl
theorem bz.bits20 : waitsOk bz.T20.2 bz.B20 = true := by kernel_rfl
set_option maxHeartbeats 8000000 in
set_option maxRecDepth 100000 in
theorem bz.calls (k : Nat) (a0 : Int) (A1 : Option Addr) (c1 : Nat) (l1 : List Int) (A2 : Option Addr) (c2 : Nat) (l2 : List Int) (r1 : List Int) (r2 : List Int) (r3 : List Int) (r4 : Int) (w : World) (hr1 : Kd.C (Kd.int .u64) w A1 l1.length l1) (hc1 : l1.length ≤ c1) (hr2 : Kd.C (Kd.int .u64) w A2 l2.length l2) (hc2 : l2.length ≤ c2) (h : bz.f k a0 l1 l2 = some (r1, r2, r3, r4)) :
    Calls Try.prog 43 #[.int .u64 a0, .slice A1 l1.length c1, .slice A2 l2.length c2] w fun e w' => ∃ v0_ v1_ v2_ : Value, e = .returned (.tuple #[v0_, v1_, v2_, .int .i64 r4]) ∧ Kd.V (Kd.int .u64) 22 w' w.heap.size (fun k_ => (w.heap.size ≤ k_)) v0_ r1 ∧ Kd.V (Kd.int .u64) 22 w' w.heap.size (fun k_ => (w.heap.size ≤ k_)) v1_ r2 ∧ Kd.V (Kd.int .u64) 22 w' w.heap.size (fun k_ => (w.heap.size ≤ k_)) v2_ r3 ∧ Below w.heap.size w w' := by
  have hs1 : Kd.V (Kd.int .u64) 22 w w.heap.size (fun k_ => k_ < w.heap.size) (.slice A1 l1.length c1) l1 := Kd.V_mk hc1 (Kd.C_F (Kd.heap_int _) hr1)
  have hs2 : Kd.V (Kd.int .u64) 22 w w.heap.size (fun k_ => k_ < w.heap.size) (.slice A2 l2.length c2) l2 := Kd.V_mk hc2 (Kd.C_F (Kd.heap_int _) hr2)
  have HO1 := Aside0.mk (show Kd.V (Kd.int .u64) 22 w w.heap.size (fun k_ => (k_ < w.heap.size ∨ w.heap.size + 1 ≤ k_)) (.slice A1 l1.length c1) l1 from Kd.V_mono hs1 (fun k_ hk => .inl hk))
  have HO2 := Aside0.mk (show Kd.V (Kd.int .u64) 22 w w.heap.size (fun k_ => (k_ < w.heap.size ∨ w.heap.size + 1 ≤ k_)) (.slice A2 l2.length c2) l2 from Kd.V_mono hs2 (fun k_ hk => .inl hk))
  have HB := Aside0.mk (Below.refl w.heap.size w)
  have H : ((poly_both.f k a0 l1 l2).bind fun t233 => (if t233 = true then (bz.l0 k a0 l1 l2 a0 ([] : List (List Int))) else (some (([] : List Int), ([] : List Int), ([] : List Int), 1)))) = some (r1, r2, r3, r4) := h
  clear h
  replace H := Option.bind_eq_some_iff.mp H
  obtain ⟨t233, A40, H⟩ := H
  replace H : (if t233 = true then (bz.l0 k a0 l1 l2 a0 ([] : List (List Int))) else (some (([] : List Int), ([] : List Int), ([] : List Int), 1))) = some (r1, r2, r3, r4) := H
  have A4 := Aside0.mk A40
  clear A40
  by_cases c5 : t233 = true
  · subst c5
    have H1 : (bz.l0 k a0 l1 l2 a0 ([] : List (List Int))) = some (r1, r2, r3, r4) := by rw [if_pos rfl] at H; exact H
    clear H
    have H := H1
    clear H1
    have H' := Aside0.mk H
    clear H
    have hmf : ∀ (fn : Fn) (first cap : Array Value) (w : World), (Instr.makeFunc fn first cap).run Try.prog w = .ok (.func fn first cap) w := fun _ _ _ _ => rfl
    refine (callsIn_wide (n := 12)).1 ?_
    refine callsIn_of_wp_marks Try.func43 rfl trivial ?_ rfl
    refine wpIn_wide.2 ?_
    simp only [Try.ntmps43, List.size_toArray, List.length_cons, List.length_nil, Nat.reduceAdd, Nat.reduceSub, Array.replicate_succ, Array.replicate_zero, List.push_toArray, List.append_toArray, List.nil_append, List.cons_append]
    go_wp2_with (first | ((with_reducible refine gate_callee (f := 59) rfl ?_); refine goesL_ (some 24) rfl rfl Try.func59 (by kernel_rfl) rfl #[.int .u64 a0, .slice A1 l1.length c1, .slice A2 l2.length c2] rfl (by (try simp only [List.map_toArray, List.map_cons, List.map_nil]); first | done | rfl | (simp only [List.length_drop, List.length_take]; rfl)) ?_; (with_reducible refine (poly_both.calls k a0 _ _ l1 _ _ l2 true _ ?side1 ?side2 ?side3 ?side4 A4.out).mono ?_); (case side1 => repeat (first | exact (Kd.V_reads' HO1.out).2.2 | (with_reducible refine Kd.C_alloc ?_ _) | (with_reducible refine Kd.C_drewN ?_ _) | (with_reducible refine Kd.C_drew ?_))); (case side2 => exact (Kd.V_reads' HO1.out).2.1); (case side3 => repeat (first | exact (Kd.V_reads' HO2.out).2.2 | (with_reducible refine Kd.C_alloc ?_ _) | (with_reducible refine Kd.C_drewN ?_ _) | (with_reducible refine Kd.C_drew ?_))); (case side4 => exact (Kd.V_reads' HO2.out).2.1); rintro e w1 ⟨rfl, hd_⟩; refine ⟨_, rfl, ?_⟩; have hb := hd_.below; have hsz := drawn_sz hd_; clear hd_; have n0_ := Aside0.mk (Kd.V_below HO1.out hb); have n1_ := Aside0.mk (Kd.V_below HO2.out hb); clear HO1 HO2; have HO1 := n0_; have HO2 := n1_; clear n0_ n1_; clear HB; have HB := Aside0.mk hb; clear hb))
    go_loopg [1, 2, 11] k (fun kq v1 v2 v11 w' => ∃ (x1_1 : List Int) (x2_1 : List Int) (x11_1 : List (List Int)), Aside0 (bz.l0 kq a0 x1_1 x2_1 a0 x11_1 = some (r1, r2, r3, r4)) ∧ Aside0 (kq ≤ k) ∧ Aside0 (Kd.V (Kd.int .u64) 22 w' w.heap.size (fun k_ => (k_ < w.heap.size ∨ w.heap.size + 1 ≤ k_) ∧ some k_ ≠ (v11 : Value).ownBlock) v1 x1_1) ∧ Aside0 (Kd.V (Kd.int .u64) 22 w' w.heap.size (fun k_ => (k_ < w.heap.size ∨ w.heap.size + 1 ≤ k_) ∧ some k_ ≠ (v11 : Value).ownBlock) v2 x2_1) ∧ Aside0 (Kd.N (Kd.slice 22 (Kd.int .u64)) 23 w' w.heap.size (fun k_ => (k_ < w.heap.size ∨ w.heap.size + 1 ≤ k_)) v11 x11_1) ∧ Aside0 (Below w.heap.size w w') ∧ Aside0 (w'.cell? ⟨w.heap.size, 0, none⟩ = some (.int .u64 a0)))
    case atStart => exact ⟨(l1), (l2), (([] : List (List Int))), H', ⟨Nat.le_refl _⟩, ⟨by (with_reducible repeat (first | apply Kd.V_alloc | apply Kd.V_drewN | apply Kd.V_drew)); exact Kd.V_mono HO1.out (fun _ hk => ⟨hk, (by simp [Value.ownBlock])⟩)⟩, ⟨by (with_reducible repeat (first | apply Kd.V_alloc | apply Kd.V_drewN | apply Kd.V_drew)); exact Kd.V_mono HO2.out (fun _ hk => ⟨hk, (by simp [Value.ownBlock])⟩)⟩, ⟨by first | exact Kd.S_nil _ _ _ _ _ | exact Kd.N_nil _ _ _ _ _ | exact Kd.V_nil _ _ _ _ _ | exact Kd.Q_nil _ _ _ _ _ | exact Kd.R_nil _ _ _ _ _⟩, ⟨by repeat (first | (with_reducible first | exact HB.out | apply below_alloc | apply pw_below_drewN | apply below_drew1) | exact HB.out)⟩, ⟨by go_simp⟩⟩
    case round =>
      clear H'
      try clear c1
      try clear c2
      try clear p2
      try clear c4
      try clear c5
      obtain ⟨x1_1, x2_1, x11_1, HA, HK1, HO_1, HO_2, HO_11, HB, HR⟩ := hrel
      cases gk with
      | zero => exact absurd HA.out (by simp [bz.l0])
      | succ k1 =>
        have H := HA.out
        clear HA
        simp only [bz.l0] at H
        by_cases c6 : (x2_1.length : Int) > 0
        · rw [if_pos c6] at H
          have c6b0 : decide (0 < (x2_1.length : Int)) = true := decide_eq_true c6
          have c6b1 : decide (0 < x2_1.length) = true := decide_eq_true (by omega)
          clear c6
          replace H := Option.bind_eq_some_iff.mp H
          obtain ⟨⟨t234, t237, t240⟩, A70, H⟩ := H
          replace H : (if t240 = 0 then (if x11_1.length < 5864062014805 then (bz.l0 k1 a0 x2_1 t237 a0 (x11_1 ++ [t234])) else (none)) else (some (([] : List Int), ([] : List Int), ([] : List Int), t240))) = some (r1, r2, r3, r4) := H
          have A7 := Aside0.mk A70
          clear A70
          by_cases c8 : t240 = 0
          · rw [if_pos c8] at H
            have c8b0 : (t240 == 0) = true := beq_iff_eq.mpr c8
            have c8b1 : (t240 != 0) = false := bne_eq_false_iff_eq.mpr c8
            clear c8
            by_cases c9 : x11_1.length < 5864062014805
            · rw [if_pos c9] at H
              have LMc9 := Aside0.mk c9
              clear c9
              obtain ⟨y241, hy241⟩ : ∃ y_ : List (List Int), y_ = (x11_1 ++ [t234]) := ⟨_, rfl⟩
              replace H : (bz.l0 k1 a0 x2_1 t237 a0 y241) = some (r1, r2, r3, r4) := by first | (rw [hy241]; with_reducible exact H) | (have H2_ := (Option.bind_some _ _).symm.trans H; rw [hy241]; with_reducible exact H2_) | (have H2_ := (Option.bind_some _ _).symm.trans H; with_reducible exact H2_) | with_reducible exact H | (rw [hy241]; exact H) | exact H
              have Ny241 := Aside0.mk hy241
              clear hy241
              have H' := Aside0.mk H
              clear H
              obtain ⟨Ao10, co10, eo10⟩ := Kd.V_slice HO_2.out
              subst eo10
              obtain ⟨Ao11, co11, eo11⟩ := Kd.V_slice HO_1.out
              subst eo11
              go_wp2_with (first | ((with_reducible refine gate_callee (f := 32) rfl ?_); refine goesL_ (some 34) rfl rfl Try.func32 (by kernel_rfl) rfl #[.int .u64 a0, .slice Ao11 x1_1.length co11, .slice Ao10 x2_1.length co10] rfl (by (try simp only [List.map_toArray, List.map_cons, List.map_nil]); first | done | rfl | (simp only [List.length_drop, List.length_take]; rfl)) ?_; (with_reducible refine (poly_Div.calls k1 a0 _ _ x1_1 _ _ x2_1 t234 t237 t240 _ ?side1 ?side2 ?side3 ?side4 A7.out).mono ?_); (case side1 => repeat (first | exact (Kd.V_reads' HO_1.out).2.2 | (with_reducible refine Kd.C_alloc ?_ _) | (with_reducible refine Kd.C_drewN ?_ _) | (with_reducible refine Kd.C_drew ?_))); (case side2 => exact (Kd.V_reads' HO_1.out).2.1); (case side3 => repeat (first | exact (Kd.V_reads' HO_2.out).2.2 | (with_reducible refine Kd.C_alloc ?_ _) | (with_reducible refine Kd.C_drewN ?_ _) | (with_reducible refine Kd.C_drew ?_))); (case side4 => exact (Kd.V_reads' HO_2.out).2.1); rintro e w12 ⟨v235, v238, rfl, ho0, ho1, hb⟩; refine ⟨_, rfl, ?_⟩; have n0_ := Aside0.mk (Kd.V_below (by (with_reducible repeat (first | apply Kd.V_alloc | apply Kd.V_drewN | apply Kd.V_drew)); exact HO_1.out) hb); have n1_ := Aside0.mk (Kd.V_below (by (with_reducible repeat (first | apply Kd.V_alloc | apply Kd.V_drewN | apply Kd.V_drew)); exact HO_2.out) hb); have n2_ := Aside0.mk (Kd.N_below (by (with_reducible repeat (first | apply Kd.N_alloc | apply Kd.N_drewN | apply Kd.N_drew)); exact HO_11.out) hb); have n3_ := Aside0.mk (Kd.V_lower (Kd.V_mono (ok' := fun k_ => (k_ < w.heap.size ∨ w.heap.size + 1 ≤ k_) ∧ some k_ ≠ (u11 : Value).ownBlock) ho0 (fun k_ hk_ => ⟨(.inr (Nat.le_trans (box_lt HR.out) hk_)), (Kd.fresh' (Kd.N_lt (by (with_reducible repeat (first | apply Kd.N_alloc | apply Kd.N_drewN | apply Kd.N_drew)); exact HO_11.out)) k_ hk_)⟩)) (below_size (by repeat (first | (with_reducible first | exact HB.out | apply below_alloc | apply pw_below_drewN | apply below_drew1) | exact HB.out)))); have n4_ := Aside0.mk (Kd.V_lower (Kd.V_mono (ok' := fun k_ => (k_ < w.heap.size ∨ w.heap.size + 1 ≤ k_) ∧ some k_ ≠ (u11 : Value).ownBlock) ho1 (fun k_ hk_ => ⟨(.inr (Nat.le_trans (box_lt HR.out) hk_)), (Kd.fresh' (Kd.N_lt (by (with_reducible repeat (first | apply Kd.N_alloc | apply Kd.N_drewN | apply Kd.N_drew)); exact HO_11.out)) k_ hk_)⟩)) (below_size (by repeat (first | (with_reducible first | exact HB.out | apply below_alloc | apply pw_below_drewN | apply below_drew1) | exact HB.out)))); have n5_ := Aside0.mk (below_step (by repeat (first | (with_reducible first | exact HB.out | apply below_alloc | apply pw_below_drewN | apply below_drew1) | exact HB.out)) hb); clear HO_1; clear HO_2; clear HO_11; clear HB; have HO_1 := n0_; have HO_2 := n1_; have HO_11 := n2_; have HO236 := n3_; have HO239 := n4_; have HB := n5_; clear n0_ n1_ n2_ n3_ n4_ n5_; have HR2 := (hb.cell (World.block_lt_of_cell? _ _ HR.out)).trans HR.out; clear HR; have HR := Aside0.mk HR2; clear HR2; (try clear hb); (try clear hb2); (try clear hk); (try clear hi); (try clear ho0); (try clear ho1); obtain ⟨Ao14, co14, eo14⟩ := Kd.V_slice HO236.out; subst eo14) | ((with_reducible refine gate_builtin (b := .append) (xs := #[.tmp 41, .tmp 43]) rfl ?_); at_builtin; refine Kd.N_append (Kd.slice 22 (Kd.int .u64)) (w0 := w) w.heap.size rfl (.tmp 41) (.tmp 43) 69 23 (.slice none 0 0) 24 rfl Try.underlying69 info23 rfl (by decide) (by omega) u11 x11_1 t234 [.slice Ao14 t234.length co14] (fun k_ => (k_ < w.heap.size ∨ w.heap.size + 1 ≤ k_)) (fun k_ => ((fun k_ => (k_ < w.heap.size ∨ w.heap.size + 1 ≤ k_))) k_ ∧ some k_ ≠ (u11 : Value).ownBlock) rfl rfl ?aP (fun _ hk => hk) ?aF ?aO ?aB ?aS ?aL ?_; (case aP => exact (Kd.FK_slice_mk (Kd.V_reads' (Kd.V_mono (ok' := (fun k_ => ((fun k_ => (k_ < w.heap.size ∨ w.heap.size + 1 ≤ k_))) k_ ∧ some k_ ≠ (u11 : Value).ownBlock)) (HO236.out) (fun k_ hk => ⟨hk.1, hk.2⟩))).2.1 (Kd.V_F (Kd.V_mono (ok' := (fun k_ => ((fun k_ => (k_ < w.heap.size ∨ w.heap.size + 1 ≤ k_))) k_ ∧ some k_ ≠ (u11 : Value).ownBlock)) (HO236.out) (fun k_ hk => ⟨hk.1, hk.2⟩))))); (case aB => exact (by repeat (first | (with_reducible first | exact HB.out | apply below_alloc | apply pw_below_drewN | apply below_drew1) | exact HB.out))); (case aF => exact (fun k_ hk => (.inr (Nat.le_trans (box_lt HR.out) hk)))); (case aO => exact (by (with_reducible repeat (first | apply Kd.N_alloc | apply Kd.N_drewN | apply Kd.N_drew)); exact HO_11.out)); (case aS => exact (below_size (by repeat (first | (with_reducible first | exact HB.out | apply below_alloc | apply pw_below_drewN | apply below_drew1) | exact HB.out)))); (case aL => have := LMc9.out; omega); intro v242 w13 ho hb hg hat; have HR2 := cell_grown HR.out hg (fun e => by have := HO_11.out.1 _ e.symm; omega); clear HR; have HR := Aside0.mk HR2; clear HR2; rw [← Ny241.out] at ho; have n0_ := Aside0.mk (Kd.V_afterv (ok := (fun k_ => (k_ < w.heap.size ∨ w.heap.size + 1 ≤ k_))) (by (with_reducible repeat (first | apply Kd.V_alloc | apply Kd.V_drewN | apply Kd.V_drew)); exact HO_1.out) hg hat); have n1_ := Aside0.mk (Kd.V_afterv (ok := (fun k_ => (k_ < w.heap.size ∨ w.heap.size + 1 ≤ k_))) (by (with_reducible repeat (first | apply Kd.V_alloc | apply Kd.V_drewN | apply Kd.V_drew)); exact HO_2.out) hg hat); have n2_ := Aside0.mk (Kd.V_afterv (ok := (fun k_ => (k_ < w.heap.size ∨ w.heap.size + 1 ≤ k_))) (by (with_reducible repeat (first | apply Kd.V_alloc | apply Kd.V_drewN | apply Kd.V_drew)); exact HO236.out) hg hat); have n3_ := Aside0.mk (Kd.V_afterv (ok := (fun k_ => (k_ < w.heap.size ∨ w.heap.size + 1 ≤ k_))) (by (with_reducible repeat (first | apply Kd.V_alloc | apply Kd.V_drewN | apply Kd.V_drew)); exact HO239.out) hg hat); have n4_ := Aside0.mk (hb); have n5_ := Aside0.mk (ho); clear HO_1; clear HO_2; clear HO236; clear HO239; clear HB; clear HO_11; have HO_1 := n0_; have HO_2 := n1_; have HO236 := n2_; have HO239 := n3_; have HB := n4_; have HO243 := n5_; clear n0_ n1_ n2_ n3_ n4_ n5_; clear ho hb hg hat))
              go_roundg k1
              case measure => have := HK1.out; omega
              case rel => exact ⟨(x2_1), (t237), (y241), H', ⟨by have := HK1.out; omega⟩, ⟨by (with_reducible repeat (first | apply Kd.V_alloc | apply Kd.V_drewN | apply Kd.V_drew)); exact HO_2.out⟩, ⟨by (with_reducible repeat (first | apply Kd.V_alloc | apply Kd.V_drewN | apply Kd.V_drew)); exact HO239.out⟩, ⟨by (with_reducible repeat (first | apply Kd.N_alloc | apply Kd.N_drewN | apply Kd.N_drew)); exact HO243.out⟩, ⟨by repeat (first | (with_reducible first | exact HB.out | apply below_alloc | apply pw_below_drewN | apply below_drew1) | exact HB.out)⟩, HR⟩
            · rw [if_neg c9] at H
              exact absurd H (by simp)
          · rw [if_neg c8] at H
            have c8b0 : (t240 == 0) = false := beq_eq_false_iff_ne.mpr c8
            have c8b1 : (t240 != 0) = true := bne_iff_ne.mpr c8
            simp only [Option.some.injEq, Prod.mk.injEq] at H
            obtain ⟨rfl, rfl, rfl, rfl⟩ := H
            obtain ⟨Ao15, co15, eo15⟩ := Kd.V_slice HO_2.out
            subst eo15
            obtain ⟨Ao16, co16, eo16⟩ := Kd.V_slice HO_1.out
            subst eo16
            go_wp2_with (first | ((with_reducible refine gate_callee (f := 32) rfl ?_); refine goesL_ (some 34) rfl rfl Try.func32 (by kernel_rfl) rfl #[.int .u64 a0, .slice Ao16 x1_1.length co16, .slice Ao15 x2_1.length co15] rfl (by (try simp only [List.map_toArray, List.map_cons, List.map_nil]); first | done | rfl | (simp only [List.length_drop, List.length_take]; rfl)) ?_; (with_reducible refine (poly_Div.calls k1 a0 _ _ x1_1 _ _ x2_1 t234 t237 t240 _ ?side1 ?side2 ?side3 ?side4 A7.out).mono ?_); (case side1 => repeat (first | exact (Kd.V_reads' HO_1.out).2.2 | (with_reducible refine Kd.C_alloc ?_ _) | (with_reducible refine Kd.C_drewN ?_ _) | (with_reducible refine Kd.C_drew ?_))); (case side2 => exact (Kd.V_reads' HO_1.out).2.1); (case side3 => repeat (first | exact (Kd.V_reads' HO_2.out).2.2 | (with_reducible refine Kd.C_alloc ?_ _) | (with_reducible refine Kd.C_drewN ?_ _) | (with_reducible refine Kd.C_drew ?_))); (case side4 => exact (Kd.V_reads' HO_2.out).2.1); rintro e w17 ⟨v235, v238, rfl, ho0, ho1, hb⟩; refine ⟨_, rfl, ?_⟩; have n0_ := Aside0.mk (Kd.V_below (by (with_reducible repeat (first | apply Kd.V_alloc | apply Kd.V_drewN | apply Kd.V_drew)); exact HO_1.out) hb); have n1_ := Aside0.mk (Kd.V_below (by (with_reducible repeat (first | apply Kd.V_alloc | apply Kd.V_drewN | apply Kd.V_drew)); exact HO_2.out) hb); have n2_ := Aside0.mk (Kd.N_below (by (with_reducible repeat (first | apply Kd.N_alloc | apply Kd.N_drewN | apply Kd.N_drew)); exact HO_11.out) hb); have n3_ := Aside0.mk (Kd.V_lower (Kd.V_mono (ok' := fun k_ => (k_ < w.heap.size ∨ w.heap.size + 1 ≤ k_) ∧ some k_ ≠ (u11 : Value).ownBlock) ho0 (fun k_ hk_ => ⟨(.inr (Nat.le_trans (box_lt HR.out) hk_)), (Kd.fresh' (Kd.N_lt (by (with_reducible repeat (first | apply Kd.N_alloc | apply Kd.N_drewN | apply Kd.N_drew)); exact HO_11.out)) k_ hk_)⟩)) (below_size (by repeat (first | (with_reducible first | exact HB.out | apply below_alloc | apply pw_below_drewN | apply below_drew1) | exact HB.out)))); have n4_ := Aside0.mk (Kd.V_lower (Kd.V_mono (ok' := fun k_ => (k_ < w.heap.size ∨ w.heap.size + 1 ≤ k_) ∧ some k_ ≠ (u11 : Value).ownBlock) ho1 (fun k_ hk_ => ⟨(.inr (Nat.le_trans (box_lt HR.out) hk_)), (Kd.fresh' (Kd.N_lt (by (with_reducible repeat (first | apply Kd.N_alloc | apply Kd.N_drewN | apply Kd.N_drew)); exact HO_11.out)) k_ hk_)⟩)) (below_size (by repeat (first | (with_reducible first | exact HB.out | apply below_alloc | apply pw_below_drewN | apply below_drew1) | exact HB.out)))); have n5_ := Aside0.mk (below_step (by repeat (first | (with_reducible first | exact HB.out | apply below_alloc | apply pw_below_drewN | apply below_drew1) | exact HB.out)) hb); clear HO_1; clear HO_2; clear HO_11; clear HB; have HO_1 := n0_; have HO_2 := n1_; have HO_11 := n2_; have HO236 := n3_; have HO239 := n4_; have HB := n5_; clear n0_ n1_ n2_ n3_ n4_ n5_; (try clear hb); (try clear hb2); (try clear hk); (try clear hi); (try clear ho0); (try clear ho1)))
            refine retM (results_list (rs := [.tmp 6, .tmp 7, .tmp 8, .tmp 9]) rfl (by simp) (.tmp (.tmp (.tmp (.tmp .nil))))) rfl ?_
            exact ⟨_, _, _, by first | rfl | (simp [errW_none, errW_some] <;> rfl) | (simp [*, errW_none, errW_some] <;> rfl), Kd.V_nil _ _ _ _ _, Kd.V_nil _ _ _ _ _, Kd.V_nil _ _ _ _ _, by repeat (first | (with_reducible first | exact HB.out | apply below_alloc | apply pw_below_drewN | apply below_drew1) | exact HB.out)⟩
        · rw [if_neg c6] at H
          have c6b0 : decide (0 < (x2_1.length : Int)) = false := decide_eq_false c6
          have c6b1 : decide (0 < x2_1.length) = false := decide_eq_false (by omega)
          clear c6
          by_cases c18 : (x1_1.length : Int) = 0
          · rw [if_pos c18] at H
            have c18b0 : ((x1_1.length : Int) == 0) = true := beq_iff_eq.mpr c18
            have c18b1 : ((x1_1.length : Int) != 0) = false := bne_eq_false_iff_eq.mpr c18
            clear c18
            simp only [Option.some.injEq, Prod.mk.injEq] at H
            obtain ⟨rfl, rfl, rfl, rfl⟩ := H
            obtain ⟨Ao19, co19, eo19⟩ := Kd.V_slice HO_2.out
            subst eo19
            obtain ⟨Ao20, co20, eo20⟩ := Kd.V_slice HO_1.out
            subst eo20
            go_wp2
            refine retM (results_list (rs := [.tmp 6, .tmp 7, .tmp 8, .tmp 9]) rfl (by simp) (.tmp (.tmp (.tmp (.tmp .nil))))) rfl ?_
            exact ⟨_, _, _, by first | rfl | (simp [errW_none, errW_some] <;> rfl) | (simp [*, errW_none, errW_some] <;> rfl), Kd.V_nil _ _ _ _ _, Kd.V_nil _ _ _ _ _, Kd.V_nil _ _ _ _ _, by repeat (first | (with_reducible first | exact HB.out | apply below_alloc | apply pw_below_drewN | apply below_drew1) | exact HB.out)⟩
          · rw [if_neg c18] at H
            have c18b0 : ((x1_1.length : Int) == 0) = false := beq_eq_false_iff_ne.mpr c18
            have c18b1 : ((x1_1.length : Int) != 0) = true := bne_iff_ne.mpr c18
            have c18b2 : ¬ (x1_1 = []) := fun h_ => c18 (by rw [h_]; rfl)
            obtain ⟨ji21, hji21⟩ : ∃ j_ : Int, (wrap64 ((x1_1.length : Int) - 1)) = j_ := ⟨_, rfl⟩
            replace H : (if 0 ≤ (ji21) then (if (ji21) < (x1_1.length : Int) then ((field_Inv.f k1 a0 (rd x1_1 (ji21))).bind fun bt245 => (if bt245.2 = 0 then (if okR a0 x11_1 bt245.1 = true then ((back k1 a0 x11_1.reverse [bt245.1] []).bind fun st => ((poly_ring_scaled.f k1 a0 x1_1 bt245.1).bind fun t250 => (some (t250, st.1, st.2, 0)))) else (none)) else (some (([] : List Int), ([] : List Int), ([] : List Int), 5)))) else (none)) else (none)) = some (r1, r2, r3, r4) := by first | (rw [hji21] at H; exact H) | (simp only [hji21] at H ⊢; exact H)
            have hji21w : (IntKind.i64.wrap ((x1_1.length : Int) - 1)) = ji21 := (i64_w _).trans hji21
            by_cases c22 : 0 ≤ (ji21)
            · rw [if_pos c22] at H
              have c22b0 : decide (0 ≤ (ji21)) = true := decide_eq_true c22
              clear c22
              by_cases c23 : (ji21) < (x1_1.length : Int)
              · rw [if_pos c23] at H
                have c23b0 : decide ((ji21) < (x1_1.length : Int)) = true := decide_eq_true c23
                clear c23
                replace H := Option.bind_eq_some_iff.mp H
                obtain ⟨⟨t245, t246⟩, A240, H⟩ := H
                replace H : (if t246 = 0 then (if okR a0 x11_1 t245 = true then ((back k1 a0 x11_1.reverse [t245] []).bind fun st => ((poly_ring_scaled.f k1 a0 x1_1 t245).bind fun t250 => (some (t250, st.1, st.2, 0)))) else (none)) else (some (([] : List Int), ([] : List Int), ([] : List Int), 5))) = some (r1, r2, r3, r4) := H
                have A24 := Aside0.mk A240
                clear A240
                by_cases c25 : t246 = 0
                · rw [if_pos c25] at H
                  subst c25
                  by_cases ok_ : okR a0 x11_1 t245 = true
                  · rw [if_pos ok_] at H
                    replace H := Option.bind_eq_some_iff.mp H
                    obtain ⟨⟨s_, t_⟩, B1, H⟩ := H
                    replace H : ((poly_ring_scaled.f k1 a0 x1_1 t245).bind fun t250 => (some (t250, s_, t_, 0))) = some (r1, r2, r3, r4) := H
                    replace H := Option.bind_eq_some_iff.mp H
                    obtain ⟨t250, A260, H⟩ := H
                    replace H : (some (t250, s_, t_, 0)) = some (r1, r2, r3, r4) := H
                    have A26 := Aside0.mk A260
                    have BK := Aside0.mk B1
                    have OK := Aside0.mk ok_
                    clear A260 B1 ok_
                    simp only [Option.some.injEq, Prod.mk.injEq] at H
                    obtain ⟨rfl, rfl, rfl, rfl⟩ := H
                    obtain ⟨Ao27, co27, eo27⟩ := Kd.V_slice HO_2.out
                    subst eo27
                    obtain ⟨Ao28, co28, eo28⟩ := Kd.V_slice HO_1.out
                    subst eo28
                    obtain ⟨Aq, cq, eq_⟩ := Kd.N_slice HO_11.out
                    subst eq_
                    have p244 : 0 ≤ ((ji21) : Int) := of_decide_eq_true (by first | (with_reducible assumption) | assumption)
                    have q244 : (ji21) < (x1_1.length : Int) := of_decide_eq_true (by first | (with_reducible assumption) | assumption)
                    obtain ⟨ad244, e244, hx244_0⟩ := Kd.at_int (Kd.V_reads' HO_1.out).2.2 (ji21) p244 q244
                    cases e244
                    replace p244 := eq_true p244
                    replace q244 := eq_true q244
                    go_wp2_with (first | ((with_reducible refine gate_callee (f := 60) rfl ?_); refine goesL_ (some 58) rfl rfl Try.func60 (by kernel_rfl) rfl #[.int .u64 a0, .int .u64 (rd x1_1 (ji21))] rfl (by (try simp only [List.map_toArray, List.map_cons, List.map_nil]); first | done | (simp only [hji21]; rfl) | rfl | (simp only [List.length_drop, List.length_take]; rfl)) ?_; (with_reducible refine (field_Inv.calls k1 a0 (rd x1_1 (ji21)) t245 0 _ A24.out).mono ?_); rintro e w29 ⟨rfl, hb⟩; refine ⟨_, rfl, ?_⟩; have n0_ := Aside0.mk (Kd.V_below HO_1.out hb); have n2_ := Aside0.mk (Kd.N_below HO_11.out hb); have n3_ := Aside0.mk (below_step HB.out hb); have HR2 := (hb.cell (World.block_lt_of_cell? _ _ HR.out)).trans HR.out; clear hx244_0; clear HO_1; clear HO_2; clear HO_11; clear HB; clear HR; have HO_1 := n0_; have HO_11 := n2_; have HB := n3_; have HR := Aside0.mk HR2; clear n0_ n2_ n3_ HR2 hb) | (go_at_call 69; refine (Rg.backward_calls _ _ _ _).mono ?_; rintro e w' ⟨rfl, rfl⟩))
                    clear A4 HK1 HO1 HO2 hr1 hc1 hr2 hc2 hs1 hs2 hsz c6b0 c6b1 c18 c18b0 c18b1 c18b2 hji21 hji21w c22b0 c23b0 p244 q244 A24
                    obtain ⟨p, rfl, hmd, hc, hrl, hrows⟩ := okR_spec OK.out
                    have nz : NeZero p := hmd.nz
                    obtain ⟨vs, hVs, hvs⟩ := rows_vs (c := cq) (Kd.N_reads' HO_11.out).2.2
                    have hfin := stAt_back hmd hc hrl hrows BK.out
                    have hCa := (Kd.V_reads' HO_1.out).2.2
                    have hca := (Kd.V_reads' HO_1.out).2.1
                    obtain ⟨W0, hW0, hsz, hS, hT, hfS, hfT, hQ0, hR0, hL0, hB0⟩ : ∃ W0, ((((w29.alloc (Obj.cells #[Value.int IntKind.u64 t245] 22)).alloc (Obj.cells #[Value.slice (some { block := w29.heap.size, off := 0 }) 1 1] 23)).alloc (Obj.cells #[Value.slice none 0 0] 23)).alloc (Obj.cells #[Value.slice Aq x11_1.length cq] 69)) = W0 ∧ W0.heap.size = w29.heap.size + 4 ∧
                        W0.cell? ⟨w29.heap.size + 1, 0, none⟩ = some (.slice (some ⟨w29.heap.size, 0, none⟩) 1 1) ∧ W0.cell? ⟨w29.heap.size + 1 + 1, 0, none⟩ = some (.slice none 0 0) ∧ W0.frozen? ⟨w29.heap.size + 1, 0, none⟩ = false ∧ W0.frozen? ⟨w29.heap.size + 1 + 1, 0, none⟩ = false ∧
                        W0.cell? ⟨w29.heap.size + 1 + 1 + 1, 0, none⟩ = some (.slice Aq x11_1.length cq) ∧ W0.cell? ⟨w.heap.size, 0, none⟩ = some (.int .u64 p) ∧ W0.cell? ⟨w29.heap.size, 0, none⟩ = some (.int .u64 t245) ∧ Below w29.heap.size w29 W0 := by
                      have hb29 : Below w29.heap.size w29 ((((w29.alloc (Obj.cells #[Value.int IntKind.u64 t245] 22)).alloc (Obj.cells #[Value.slice (some { block := w29.heap.size, off := 0 }) 1 1] 23)).alloc (Obj.cells #[Value.slice none 0 0] 23)).alloc (Obj.cells #[Value.slice Aq x11_1.length cq] 69)) := by
                        repeat (first | (with_reducible first | exact Below.refl _ _ | apply below_alloc))
                      exact ⟨_, rfl, by simp, by go_simp, by go_simp, by go_simp, by go_simp, by go_simp, (hb29.cell (World.block_lt_of_cell? _ _ HR.out)).trans HR.out, by go_simp, hb29⟩
                    rw [hW0]
                    clear hW0
                    have hL1 : w.heap.size + 1 ≤ w29.heap.size := box_lt HR.out
                    have hCL : Kd.C (Kd.int .u64) W0 (some ⟨w29.heap.size, 0, none⟩) [t245].length [t245] := C_one' hL0
                    have HB1 := HB.out
                    clear HO_1 HO_11 HB HR hL0 OK BK
                    refine (wpIn_wide (n := 12)).1 ?_
                    refine wpIn_rangeFunc_ownG (F := Fence.wide) (n := 12) rfl (by omega) (gf := 79) (lb := #[.pointer (some ⟨w29.heap.size + 1 + 1 + 1, 0, none⟩)]) rfl trivial (enters_of Try.func79 (by kernel_rfl) rfl)
                      (Rg.backward_stops Fence.wide 11 trivial rfl (by omega) (w29.heap.size + 1 + 1 + 1) (w29.heap.size + 1) _ x11_1.length vs (by omega) W0 (by omega) (by omega) hQ0 ((hVs.below hB0).mono' (Nat.le_succ _))) KB.trans (KB.put (by omega)) (Below.refl _ _) (fun _ => rfl)
                      (fun pre W => StI w.heap.size (w29.heap.size + 1) (w29.heap.size + 1 + 1) (stAt p x11_1 t245 pre) W ∧ Below (w29.heap.size + 1) W0 W)
                      (fun _ _ _ => False)
                      (OwnFrom.and (Own.from (I := fun pre W => StI w.heap.size (w29.heap.size + 1) (w29.heap.size + 1 + 1) (stAt p x11_1 t245 pre) W) (fun s A B row hs hg hr => StI.kept hs hg hr) _) (ownFrom_below (by omega) (by omega)))
                      (fun _ _ _ _ _ hs _ _ => hs)
                      ⟨⟨_, _, _, _, hS, hT, hfS, hfT, Nat.le_refl _, hCL, fun _ ad e => (by cases e; exact ⟨Nat.le_trans HB1.size (Nat.le_refl _), by simp, by simp; omega⟩), Nat.le_refl _, Kd.C_nil _ _, fun h => absurd h (by simp [stAt])⟩, Below.refl _ _⟩
                      ?a1 ?assign ?body ?done ?stop
                    case assign =>
                      intro l x W K hK
                      gi_wp2
                      exact hK
                    case body =>
                      rintro l pre x W ⟨hI, hB⟩ hpl
                      obtain ⟨As, At_, cs, ct, g1, g2, g3, g4, g5, g6, g7, g8, g9, g10⟩ := hI
                      obtain ⟨i1, i2, i3, i4⟩ := stAt_ok hc hrows pre
                      have hrx := row_ok hrows x
                      obtain ⟨k2, m2, e1, e2⟩ := stq_ev hmd i1 i2 hrx.2 hrx.1 (by omega) (by omega)
                      obtain ⟨Ax, cx, ex, lx, Cx⟩ := hvs x
                      have hBW : Below w29.heap.size w29 W := hB0.trans (hB.mono (Nat.le_succ _))
                      have hWs : W0.heap.size ≤ W.heap.size := hB.size
                      have hRW := (hB.cell (p := ⟨w.heap.size, 0, none⟩) (by show w.heap.size < _; omega)).trans hR0
                      have hCx := Kd.C_below Cx hBW
                      have hst := stAt_snoc (p := p) x11_1 t245 pre x
                      clear hVs hvs hfin hCa hQ0 hB0 hCL hS hT hfS hfT hrows hR0
                      rw [ex]
                      clear ex
                      gi_wp2
                      refine bz_round k2 p l _ _ W w.heap.size (w29.heap.size + 1) (w29.heap.size + 1 + 1) (x11_1.getD x []) _ _ m2 _ Ax As At_ cx cs ct hRW g1 g2 g3 g4 (by omega) hCx lx g6 g5 g9 g8 e1 e2 (fun ⟨_, _, h⟩ => h) (fun _ _ _ _ h => h) ?_
                      intro a' w2 uv hb hu
                      obtain ⟨p1, p2, p3⟩ := bz_post (n0 := w29.heap.size + 1) (Bs := w29.heap.size + 1 + 1 + 1) g1 g2 g3 g4 g8 g9 g10 (by omega) (by omega) (by omega) (by omega) (by omega) (by omega) hb hu
                      refine ⟨p3.from _, p2, ?_, ?_⟩
                      · show StI _ _ _ (stAt p x11_1 t245 (pre ++ [x])) _
                        rw [hst]
                        exact p1
                      · exact hB.trans p2.1
                    case done =>
                      rintro D ys W hD rfl ⟨hI, hB⟩ hK
                      rw [hfin] at hI
                      obtain ⟨As, At_, cs, ct, g1, g2, g3, g4, g5, g6, g7, g8, g9, g10⟩ := hI
                      have hBW : Below w29.heap.size w29 W := hB0.trans (hB.mono (Nat.le_succ _))
                      have hWs : W0.heap.size ≤ W.heap.size := hB.size
                      have hRW := (hB.cell (p := ⟨w.heap.size, 0, none⟩) (by show w.heap.size < _; omega)).trans hR0
                      have hCaW := Kd.C_below hCa hBW
                      have hDlt : D < W.heap.size := (Array.getElem?_eq_some_iff.1 hK).1
                      have hBw : Below w.heap.size w W := HB1.trans (hBW.mono HB1.size)
                      clear hVs hvs hfin hCa hQ0 hB0 hCL hS hT hfS hfT hrows hR0 HB1
                      gi_wp2
                      go_wp2
                      refine bz_last k1 p t245 _ _ W w.heap.size (w29.heap.size + 1) (w29.heap.size + 1 + 1) x1_1 s_ t_ t250 _ _ _ co28 cs ct hRW g1 g2 hCaW hca A26.out ?_
                      intro w2 gv hb hg
                      have hK2 : w2.heap[D]? = some (.deferred (some [])) := (hb.block D hDlt).trans hK
                      obtain ⟨Ag, cg, eg⟩ := Kd.V_slice hg
                      subst eg
                      have hcells : ∀ r, some D = some r → ∃ o : Obj, w2.heap[r]? = some o ∧ o.isCells = false := fun r e => by cases e; exact ⟨_, hK2, rfl⟩
                      have q1 := C_kept (Kd.V_reads' hg).2.2 (grownBy_putObj' w2 D (.deferred none)) hcells
                      have q2 := C_kept (Kd.C_below g6 hb) (grownBy_putObj' w2 D (.deferred none)) hcells
                      have q3 := C_kept (Kd.C_below g9 hb) (grownBy_putObj' w2 D (.deferred none)) hcells
                      have qb := (hBw.trans (hb.mono hBw.size)).trans (belowK_b (w := w) (Nat.le_refl _) w2 D _ (.deferred none) (by omega) hK2 rfl rfl)
                      go_wp2
                      refine ⟨by simp, .inl ⟨_, _, rfl, run_takeDeferred hK2, ?_⟩⟩
                      exact ⟨_, results_list (rs := [.tmp 6, .tmp 7, .tmp 8, .tmp 9]) rfl (by simp) (.tmp (.tmp (.tmp (.tmp .nil)))), _, _, _, rfl, V_of_C q1 (Kd.V_reads' hg).2.1 (fun hn ad e => Nat.le_trans hBw.size (V_block hg hn ad e)), V_of_C q2 g5 (fun hn ad e => (g7 hn ad e).1), V_of_C q3 g8 (fun hn ad e => (g10 hn ad e).1), qb⟩
                    case stop =>
                      rintro D c pre W _ _ h _
                      exact h.elim
                  · rw [if_neg ok_] at H
                    exact absurd H (by simp)
                · rw [if_neg c25] at H
                  have c25b0 : (t246 == 0) = false := beq_eq_false_iff_ne.mpr c25
                  have c25b1 : (t246 != 0) = true := bne_iff_ne.mpr c25
                  simp only [Option.some.injEq, Prod.mk.injEq] at H
                  obtain ⟨rfl, rfl, rfl, rfl⟩ := H
                  obtain ⟨Ao34, co34, eo34⟩ := Kd.V_slice HO_2.out
                  subst eo34
                  obtain ⟨Ao35, co35, eo35⟩ := Kd.V_slice HO_1.out
                  subst eo35
                  have p244 : 0 ≤ ((ji21) : Int) := of_decide_eq_true (by first | (with_reducible assumption) | assumption)
                  have q244 : (ji21) < (x1_1.length : Int) := of_decide_eq_true (by first | (with_reducible assumption) | assumption)
                  obtain ⟨ad244, e244, hx244_0⟩ := Kd.at_int (Kd.V_reads' HO_1.out).2.2 (ji21) p244 q244
                  cases e244
                  replace p244 := eq_true p244
                  replace q244 := eq_true q244
                  go_wp2_with (first | ((with_reducible refine gate_callee (f := 60) rfl ?_); refine goesL_ (some 58) rfl rfl Try.func60 (by kernel_rfl) rfl #[.int .u64 a0, .int .u64 (rd x1_1 (ji21))] rfl (by (try simp only [List.map_toArray, List.map_cons, List.map_nil]); first | done | (simp only [hji21]; rfl) | rfl | (simp only [List.length_drop, List.length_take]; rfl)) ?_; (with_reducible refine (field_Inv.calls k1 a0 (rd x1_1 (ji21)) t245 t246 _ A24.out).mono ?_); rintro e w36 ⟨rfl, hb⟩; refine ⟨_, rfl, ?_⟩; have n0_ := Aside0.mk (Kd.V_below (by (with_reducible repeat (first | apply Kd.V_alloc | apply Kd.V_drewN | apply Kd.V_drew)); exact HO_1.out) hb); have n1_ := Aside0.mk (Kd.V_below (by (with_reducible repeat (first | apply Kd.V_alloc | apply Kd.V_drewN | apply Kd.V_drew)); exact HO_2.out) hb); have n2_ := Aside0.mk (Kd.N_below (by (with_reducible repeat (first | apply Kd.N_alloc | apply Kd.N_drewN | apply Kd.N_drew)); exact HO_11.out) hb); have n3_ := Aside0.mk (below_step (by repeat (first | (with_reducible first | exact HB.out | apply below_alloc | apply pw_below_drewN | apply below_drew1) | exact HB.out)) hb); clear HO_1; clear HO_2; clear HO_11; clear HB; have HO_1 := n0_; have HO_2 := n1_; have HO_11 := n2_; have HB := n3_; clear n0_ n1_ n2_ n3_; (try clear hb); (try clear hb2); (try clear hk); (try clear hi)))
                  refine retM (results_list (rs := [.tmp 6, .tmp 7, .tmp 8, .tmp 9]) rfl (by simp) (.tmp (.tmp (.tmp (.tmp .nil))))) rfl ?_
                  exact ⟨_, _, _, by first | rfl | (simp [errW_none, errW_some] <;> rfl) | (simp [*, errW_none, errW_some] <;> rfl), Kd.V_nil _ _ _ _ _, Kd.V_nil _ _ _ _ _, Kd.V_nil _ _ _ _ _, by repeat (first | (with_reducible first | exact HB.out | apply below_alloc | apply pw_below_drewN | apply below_drew1) | exact HB.out)⟩
              · rw [if_neg c23] at H
                exact absurd H (by simp)
            · rw [if_neg c22] at H
              exact absurd H (by simp)
  · replace c5 := Bool.eq_false_iff.mpr c5
    subst c5
    have H1 : (some (([] : List Int), ([] : List Int), ([] : List Int), 1)) = some (r1, r2, r3, r4) := by rw [if_neg (show ¬ (false = true) by decide)] at H; exact H
    clear H
    have H := H1
    clear H1
    simp only [Option.some.injEq, Prod.mk.injEq] at H
    obtain ⟨rfl, rfl, rfl, rfl⟩ := H
    have hmf : ∀ (fn : Fn) (first cap : Array Value) (w : World), (Instr.makeFunc fn first cap).run Try.prog w = .ok (.func fn first cap) w := fun _ _ _ _ => rfl
    refine (callsIn_wide (n := 12)).1 ?_
    refine callsIn_of_wp_marks Try.func43 rfl trivial ?_ rfl
    refine wpIn_wide.2 ?_
    simp only [Try.ntmps43, List.size_toArray, List.length_cons, List.length_nil, Nat.reduceAdd, Nat.reduceSub, Array.replicate_succ, Array.replicate_zero, List.push_toArray, List.append_toArray, List.nil_append, List.cons_append]
    go_wp2_with (first | ((with_reducible refine gate_callee (f := 59) rfl ?_); refine goesL_ (some 24) rfl rfl Try.func59 (by kernel_rfl) rfl #[.int .u64 a0, .slice A1 l1.length c1, .slice A2 l2.length c2] rfl (by (try simp only [List.map_toArray, List.map_cons, List.map_nil]); first | done | rfl | (simp only [List.length_drop, List.length_take]; rfl)) ?_; (with_reducible refine (poly_both.calls k a0 _ _ l1 _ _ l2 false _ ?side1 ?side2 ?side3 ?side4 A4.out).mono ?_); (case side1 => repeat (first | exact (Kd.V_reads' HO1.out).2.2 | (with_reducible refine Kd.C_alloc ?_ _) | (with_reducible refine Kd.C_drewN ?_ _) | (with_reducible refine Kd.C_drew ?_))); (case side2 => exact (Kd.V_reads' HO1.out).2.1); (case side3 => repeat (first | exact (Kd.V_reads' HO2.out).2.2 | (with_reducible refine Kd.C_alloc ?_ _) | (with_reducible refine Kd.C_drewN ?_ _) | (with_reducible refine Kd.C_drew ?_))); (case side4 => exact (Kd.V_reads' HO2.out).2.1); rintro e w' ⟨rfl, ⟨nd, rfl⟩⟩; refine ⟨_, rfl, ?_⟩))
    refine retM (results_list (rs := [.tmp 6, .tmp 7, .tmp 8, .tmp 9]) rfl (by simp) (.tmp (.tmp (.tmp (.tmp .nil))))) rfl ?_
    exact ⟨_, _, _, by first | rfl | (simp [errW_none, errW_some] <;> rfl) | (simp [*, errW_none, errW_some] <;> rfl), Kd.V_nil _ _ _ _ _, Kd.V_nil _ _ _ _ _, Kd.V_nil _ _ _ _ _, by repeat (first | (with_reducible first | exact HB.out | apply below_alloc | apply pw_below_drewN | apply below_drew1) | exact HB.out)⟩
end Go.Proofs.Ytffcjgelcdilcaa.Rh

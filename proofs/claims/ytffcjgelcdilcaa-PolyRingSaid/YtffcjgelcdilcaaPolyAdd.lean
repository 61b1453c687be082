/- What the polynomials' sums tell. No memory. -/
import Derived.Test.YtffcjgelcdilcaaPolyT
import Derived.Test.YtffcjgelcdilcaaPAllx10
set_option linter.unusedSectionVars false
namespace Go.Proofs.Ytffcjgelcdilcaa.Spec
open Go.RowKit Go.Proofs.Ytffcjgelcdilcaa.PAll Go.Proofs.YtffcjgelcdilcaaW.PrintWords Go.Proofs.YtffcjgelcdilcaaW.PrintLast Go.Proofs.YtffcjgelcdilcaaW.PrintMore Fp
section
variable {p : Nat} [NeZero p]
theorem each_add_l0 (hp : Md p) {a b : List Int} (ha : In p a) (hb : In p b) {m : Nat} (hm : m = max a.length b.length) (hm1 : m < 2000000) (d : Nat) :
    ∀ i : Nat, i + d = m → Ev (fun k => poly_each_add.l0 k a b p ((List.range m).map fun j => if j < i then (a.getD j 0 + b.getD j 0) % (p : Int) else 0) (m : Int) (i : Int)) (toL (toP a + toP b : Pl p)) := by
  induction d with
  | zero =>
    intro i hi
    obtain rfl : i = m := by omega
    have h1 : In p ((List.range i).map fun j => if j < i then (a.getD j 0 + b.getD j 0) % (p : Int) else 0) := In_range (fun j => emod_range (p := p) _) i
    have h2 := evTrim' h1 (by simp; omega)
    have h3 : (toP ((List.range i).map fun j => if j < i then (a.getD j 0 + b.getD j 0) % (p : Int) else 0) : Pl p) = toP a + toP b := Pl.ext fun j => by
      rw [toP_range (g := fun j => (a.getD j 0 + b.getD j 0) % (p : Int)), Pl.add_at]
      by_cases c : j < i
      · rw [if_pos c, toF_add (ha.get j).1 (hb.get j).1]; rfl
      · rw [if_neg c, toP_beyond a (by omega), toP_beyond b (by omega)]; grind
    rw [h3] at h2
    refine Ev.step (f := fun k => (poly_trim.f k _).bind fun t => some t) (fun k => ?_) (Ev.bind h2 (Ev.now _))
    simp only [poly_each_add.l0]
    rw [if_neg (by omega)]
  | succ d ih =>
    intro i hi
    have e2 : wrap64 ((i : Int) + 1) = ((i + 1 : Nat) : Int) := by rw [w64_in (by omega) (by omega)]; omega
    refine Ev.step (f := fun k => (poly_ring_add.f k p (a.getD i 0) (b.getD i 0)).bind fun t => poly_each_add.l0 k a b p (((List.range m).map fun j => if j < i then (a.getD j 0 + b.getD j 0) % (p : Int) else 0).set i t) (m : Int) ((i + 1 : Nat) : Int)) (fun k => ?_) ?_
    · have hlen : ((List.range m).map fun j => if j < i then (a.getD j 0 + b.getD j 0) % (p : Int) else 0).length = m := by simp
      simp only [poly_each_add.l0]
      rw [if_pos (by omega), e2, Int.toNat_natCast, rd_get, rd_get, hlen]
      by_cases c1 : (i : Int) < (a.length : Int)
      · rw [if_pos c1, if_pos (by omega)]
        by_cases c2 : (i : Int) < (b.length : Int)
        · rw [if_pos c2]
          simp only [if_pos (show (i : Int) < (m : Int) by omega)]
        · rw [if_neg c2, getD_beyond b (by omega)]
          simp only [if_pos (show (i : Int) < (m : Int) by omega)]
      · rw [if_neg c1, getD_beyond a (by omega)]
        by_cases c2 : (i : Int) < (b.length : Int)
        · rw [if_pos c2, if_pos (by omega)]
          simp only [if_pos (show (i : Int) < (m : Int) by omega)]
        · omega
    · refine Ev.bind (evRadd hp (ha.get i) (hb.get i)) ?_
      rw [set_step (by omega) (fun j => (a.getD j 0 + b.getD j 0) % (p : Int))]
      exact ih (i + 1) (by omega)
/-- A sum of lists is the sum's list. -/
theorem evEachAdd (hp : Md p) {a b : List Int} (ha : In p a) (hb : In p b) (hal : a.length < 1000000) (hbl : b.length < 1000000) :
    Ev (fun k => poly_each_add.f k a b p) (toL (toP a + toP b : Pl p)) := by
  have h := each_add_l0 hp ha hb (m := max a.length b.length) rfl (by omega) (max a.length b.length) 0 (by omega)
  refine Ev.congr (fun k => ?_) h
  unfold poly_each_add.f
  rw [mx_len, if_pos (by omega), Int.toNat_natCast, if_pos (by omega)]
  simp only [Option.bind_some, List.length_replicate]
  congr 1
  refine ext_list (by simp) fun j hj => ?_
  rw [List.getD_eq_getElem?_getD, List.getD_eq_getElem?_getD, List.getElem?_replicate]
  have hjm : j < max a.length b.length := by simpa using hj
  rw [if_pos hjm]
  simp [List.getElem?_range hjm]

theorem evAddL (hp : Md p) {A B : Pl p} (hA : Pl.sz A ≤ 512) (hB : Pl.sz B ≤ 512) : Ev (fun k => poly_Add.f k p (toL A) (toL B)) (toL (A + B), 0) := by
  refine Ev.congr (f := fun k => (poly_both.f k p (toL A) (toL B)).bind _) (fun k => rfl) (Ev.bind (evBothL hp hA hB) ?_)
  simp only [if_true]
  have h := evEachAdd hp (In_toL A) (In_toL B) (by rw [length_toL]; omega) (by rw [length_toL]; omega)
  rw [toP_toL, toP_toL] at h
  exact Ev.bind h (Ev.now _)
end
end Go.Proofs.Ytffcjgelcdilcaa.Spec

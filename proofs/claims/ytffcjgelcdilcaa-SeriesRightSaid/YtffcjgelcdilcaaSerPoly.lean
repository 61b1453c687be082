/- A list turned round, brought in range, and the polynomial of a rule. Over the printed functions alone; no memory. -/
import Derived.Test.YtffcjgelcdilcaaSerUse
import Derived.Test.YtffcjgelcdilcaaPSerx4
import Derived.Test.YtffcjgelcdilcaaPSerx8
set_option linter.unusedVariables false
set_option linter.unusedSimpArgs false
set_option linter.unusedSectionVars false
namespace Fp
open Classical
open Go.RowKit Go.Proofs.Ytffcjgelcdilcaa.PSer Go.Proofs.YtffcjgelcdilcaaW.PrintWords Go.Proofs.YtffcjgelcdilcaaW.PrintLast Go.Proofs.YtffcjgelcdilcaaW.PrintMore Go.Proofs.Ytffcjgelcdilcaa.Spec Go.Proofs.Ytffcjgelcdilcaa.Sr

theorem getD_set_ (l : List Int) (i j : Nat) (v : Int) (h : i < l.length) : (l.set i v).getD j 0 = if j = i then v else l.getD j 0 := by
  by_cases e : j = i
  · subst e
    rw [if_pos rfl, List.getD_eq_getElem?_getD, List.getElem?_set_self h]; rfl
  · rw [if_neg e, List.getD_eq_getElem?_getD, List.getElem?_set_ne (by omega), ← List.getD_eq_getElem?_getD]
theorem getD_range_ (n k : Nat) (f : Nat → Int) : ((List.range n).map f).getD k 0 = if k < n then f k else 0 := by
  rw [List.getD_eq_getElem?_getD, List.getElem?_map]
  by_cases h : k < n
  · rw [List.getElem?_range h, if_pos h]; rfl
  · rw [List.getElem?_eq_none (by rw [List.length_range]; omega), if_neg h]; rfl
theorem getD_reverse_ (l : List Int) (k : Nat) (h : k < l.length) : l.reverse.getD k 0 = l.getD (l.length - 1 - k) 0 := by
  rw [List.getD_eq_getElem?_getD, List.getElem?_reverse h, ← List.getD_eq_getElem?_getD]
/-- A list, turned so far. -/
def rvd (l : List Int) (i : Nat) : List Int := (List.range l.length).map fun k => if k < i ∨ l.length - 1 - k < i then l.getD (l.length - 1 - k) 0 else l.getD k 0
theorem rvd_length (l : List Int) (i : Nat) : (rvd l i).length = l.length := by unfold rvd; rw [List.length_map, List.length_range]
theorem rvd_get (l : List Int) (i k : Nat) (h : k < l.length) : (rvd l i).getD k 0 = if k < i ∨ l.length - 1 - k < i then l.getD (l.length - 1 - k) 0 else l.getD k 0 := by
  unfold rvd
  rw [getD_range_, if_pos h]
theorem rvd_zero (l : List Int) : rvd l 0 = l := ext_list (rvd_length l 0) fun k hk => by
  rw [rvd_length] at hk
  rw [rvd_get l 0 k hk, if_neg (by omega)]
theorem rvd_end (l : List Int) (i : Nat) (h : l.length ≤ 2 * i + 1) : rvd l i = l.reverse := ext_list (by rw [rvd_length, List.length_reverse]) fun k hk => by
  rw [rvd_length] at hk
  rw [rvd_get l i k hk, getD_reverse_ l k hk]
  split
  · rfl
  · rw [show l.length - 1 - k = k from by omega]
theorem rvd_step (l : List Int) (i : Nat) (h : 2 * i + 1 < l.length) : ((rvd l i).set i ((rvd l i).getD (l.length - 1 - i) 0)).set (l.length - 1 - i) ((rvd l i).getD i 0) = rvd l (i + 1) := by
  refine ext_list (by rw [List.length_set, List.length_set, rvd_length, rvd_length]) fun k hk => ?_
  rw [List.length_set, List.length_set, rvd_length] at hk
  rw [getD_set_ _ _ _ _ (by rw [List.length_set, rvd_length]; omega), getD_set_ _ _ _ _ (by rw [rvd_length]; omega), rvd_get l (i + 1) k hk, rvd_get l i i (by omega), rvd_get l i (l.length - 1 - i) (by omega), rvd_get l i k hk]
  rw [if_neg (show ¬ (i < i ∨ l.length - 1 - i < i) by omega), if_neg (show ¬ (l.length - 1 - i < i ∨ l.length - 1 - (l.length - 1 - i) < i) by omega)]
  by_cases e1 : k = l.length - 1 - i
  · rw [if_pos e1, if_pos (by omega), e1, show l.length - 1 - (l.length - 1 - i) = i from by omega]
  · rw [if_neg e1]
    by_cases e2 : k = i
    · rw [if_pos e2, if_pos (by omega), e2]
    · rw [if_neg e2]
      by_cases e3 : k < i ∨ l.length - 1 - k < i
      · rw [if_pos e3, if_pos (by omega)]
      · rw [if_neg e3, if_neg (by omega)]
theorem rev_l0 (l : List Int) (hl : l.length < 1000000) (d : Nat) : ∀ i : Nat, l.length ≤ 2 * i + 1 + 2 * d → i < 1000000 → (i = 0 ∨ 2 * i ≤ l.length) → Ev (fun k => slices_Reverse_uint64_uint64.l0 k (rvd l i) (i : Int) ((l.length : Int) - 1 - i)) l.reverse := by
  induction d with
  | zero =>
    intro i hi hi2 _
    have b1 : ¬ ((i : Int) < (l.length : Int) - 1 - i) := by omega
    refine Ev.step (fun k => slices_Reverse_uint64_uint64.l0.eq_2 ..) (Ev.iteF b1 ?_)
    rw [rvd_end l i (by omega)]
    exact Ev.now _
  | succ d ih =>
    intro i hi hi2 hi3
    by_cases h : 2 * i + 1 < l.length
    · have b1 : (i : Int) < (l.length : Int) - 1 - i := by omega
      have b2 : (0 : Int) ≤ (l.length : Int) - 1 - i := by omega
      have b3 : (l.length : Int) - 1 - i < ((rvd l i).length : Int) := by rw [rvd_length]; omega
      have b4 : (0 : Int) ≤ (i : Int) := by omega
      have b5 : (i : Int) < ((rvd l i).length : Int) := by rw [rvd_length]; omega
      have b6 : ((l.length : Int) - 1 - i).toNat = l.length - 1 - i := by omega
      have b7 : rd (rvd l i) ((l.length : Int) - 1 - i) = (rvd l i).getD (l.length - 1 - i) 0 := by unfold rd; rw [b6]
      have h5 := ih (i + 1) (by omega) (by omega) (.inr (by omega))
      have e1 : wrap64 ((i : Int) + 1) = ((i + 1 : Nat) : Int) ∧ wrap64 ((l.length : Int) - 1 - i - 1) = (l.length : Int) - 1 - ((i + 1 : Nat) : Int) := ⟨by rw [w64_in (by omega) (by omega)]; omega, by rw [w64_in (by omega) (by omega)]; omega⟩
      refine Ev.step (fun k => slices_Reverse_uint64_uint64.l0.eq_2 ..) (Ev.iteT b1 (Ev.iteT b2 (Ev.iteT b3 (Ev.iteT b4 (Ev.iteT b5 ?_)))))
      rw [e1.1, e1.2, b6, b7, rd_nat, Int.toNat_natCast, rvd_step l i h]
      exact h5
    · have b1 : ¬ ((i : Int) < (l.length : Int) - 1 - i) := by omega
      refine Ev.step (fun k => slices_Reverse_uint64_uint64.l0.eq_2 ..) (Ev.iteF b1 ?_)
      rw [rvd_end l i (by omega)]
      exact Ev.now _
theorem evReverse {l : List Int} (hl : l.length < 1000000) : Ev (fun k => slices_Reverse_uint64_uint64.f k l) l.reverse := by
  have h := rev_l0 l hl l.length 0 (by omega) (by omega) (.inl rfl)
  rw [rvd_zero] at h
  have e : wrap64 ((l.length : Int) - 1) = (l.length : Int) - 1 - ((0 : Nat) : Int) := by rw [w64_in (by omega) (by omega)]; omega
  refine Ev.congr (f := fun k => slices_Reverse_uint64_uint64.l0 k l 0 (wrap64 ((l.length : Int) - 1))) (fun k => rfl) ?_
  rw [e]
  exact h
theorem turned_l0 (l : List Int) (hl : l.length < 1000000) (d : Nat) : d ≤ l.length → Ev (fun k => affidavitref04_Turned.l0 k l (l.reverse.take (l.length - d)) ((d : Int) - 1)) l.reverse := by
  induction d with
  | zero =>
    intro hd
    refine Ev.step (fun k => affidavitref04_Turned.l0.eq_2 ..) (Ev.iteF (by omega) ?_)
    rw [Nat.sub_zero, ← List.length_reverse, List.take_length]
    exact Ev.now _
  | succ d ih =>
    intro hd
    have b1 : ((d + 1 : Nat) : Int) - 1 ≥ 0 := by omega
    have b2 : (0 : Int) ≤ ((d + 1 : Nat) : Int) - 1 := by omega
    have b3 : ((d + 1 : Nat) : Int) - 1 < (l.length : Int) := by omega
    have b4 : (l.reverse.take (l.length - (d + 1))).length < 17592186044416 := by rw [List.length_take]; omega
    have b5 : ((d + 1 : Nat) : Int) - 1 = (d : Int) := by omega
    have e2 : l.reverse.take (l.length - (d + 1)) ++ [l.getD d 0] = l.reverse.take (l.length - d) := by
      have h1 : l.reverse[l.length - (d + 1)]? = some (l.getD d 0) := by
        rw [List.getElem?_reverse (by omega), show l.length - 1 - (l.length - (d + 1)) = d from by omega, List.getD_eq_getElem?_getD, List.getElem?_eq_getElem (by omega)]
        rfl
      rw [show l.length - d = l.length - (d + 1) + 1 from by omega, List.take_add_one, h1]
      rfl
    have h5 := ih (by omega)
    have e1 : wrap64 ((d : Int) - 1) = (d : Int) - 1 := w64_in (by omega) (by omega)
    refine Ev.step (fun k => affidavitref04_Turned.l0.eq_2 ..) (Ev.iteT b1 (Ev.iteT b2 (Ev.iteT b3 (Ev.iteT b4 ?_))))
    rw [b5, rd_nat, e1, e2]
    exact h5
theorem evTurned {l : List Int} (hl : l.length < 1000000) : Ev (fun k => affidavitref04_Turned.f k l) l.reverse := by
  have h := turned_l0 l hl l.length (Nat.le_refl _)
  rw [Nat.sub_self, List.take_zero] at h
  have e : wrap64 ((l.length : Int) - 1) = (l.length : Int) - 1 := w64_in (by omega) (by omega)
  refine Ev.congr (f := fun k => affidavitref04_Turned.l0 k l [] (wrap64 ((l.length : Int) - 1))) (fun k => rfl) ?_
  rw [e]
  exact h
section
variable {p : Nat} [NeZero p]
theorem norm_l0 (hp : Md p) {l : List Int} (hl : In p l) (hll : l.length < 1000000) (d : Nat) : ∀ i : Nat, i + d = l.length → Ev (fun k => poly_Norm.l0 k p l (l.length : Int) (i : Int)) (toL (toP l : Pl p), 0) := by
  induction d with
  | zero =>
    intro i hi
    exact Ev.step (fun k => poly_Norm.l0.eq_2 ..) (Ev.iteF (by omega) (Ev.bind (evTrim' hl (by omega)) (Ev.now _)))
  | succ d ih =>
    intro i hi
    have h1 := hl.get i
    have b1 : (i : Int) < (l.length : Int) := by omega
    have b2 : (0 : Int) ≤ (i : Int) := by omega
    have b3 : ¬ ((p : Int) = 0) := by have := hp.1; omega
    have h5 := ih (i + 1) (by omega)
    have e2 : l.set i (Int.tmod (rd l (i : Int)) (p : Int)) = l := by
      rw [rd_nat, Int.tmod_eq_emod_of_nonneg h1.1, Int.emod_eq_of_lt h1.1 h1.2]
      refine ext_list (List.length_set ..) fun k hk => ?_
      rw [getD_set_ _ _ _ _ (by omega)]
      split
      · rename_i e; rw [e]
      · rfl
    have e1 : wrap64 ((i : Int) + 1) = ((i + 1 : Nat) : Int) := by rw [w64_in (by omega) (by omega)]; omega
    refine Ev.step (fun k => poly_Norm.l0.eq_2 ..) (Ev.iteT b1 (Ev.iteT b2 (Ev.iteT b1 (Ev.iteF b3 ?_))))
    rw [e1, Int.toNat_natCast, e2]
    exact h5
/-- poly.Norm of what is in range. -/
theorem evNorm (hp : Md p) {l : List Int} (hl : In p l) (hll : l.length ≤ 512) : Ev (fun k => poly_Norm.f k p l) (toL (toP l : Pl p), 0) := by
  have h := norm_l0 hp hl (by omega) l.length 0 (by omega)
  have hr : Ev (fun _ => field_Right.f (p : Int)) true := Ev.congr (fun _ => by rw [right_spec, hp.ok]) (Ev.now _)
  have b1 : ¬ (l.length : Int) > 512 := by omega
  exact Ev.congr (f := fun k => (field_Right.f (p : Int)).bind _) (fun k => rfl) (Ev.bind hr (Ev.iteT rfl (Ev.iteF b1 (Ev.bind (a := l) (Ev.congr (f := fun _ => some l) (fun k => evClone (by omega)) (Ev.now _)) h))))
/-- The polynomial of a rule. -/
theorem evPoly (hp : Md p) {c : List Int} (hc : IsRule p c) : Ev (fun k => series_Poly.f k p c) (toL (toP c.reverse : Pl p), 0) := by
  have hm := hc.most
  have hr : In p c.reverse := fun x hx => hc.inr x (List.mem_reverse.1 hx)
  exact Ev.congr (f := fun k => (series_Right.f k p c).bind _) (fun k => rfl) (Ev.bind (evRight1 hp hc) (Ev.iteT rfl (Ev.bind (a := c) (Ev.congr (f := fun _ => some c) (fun k => evClone (by omega)) (Ev.now _)) (Ev.bind (evReverse (by omega)) (Ev.bind (evNorm hp hr (by rw [List.length_reverse]; omega)) (Ev.now _))))))
theorem toP_reverse_at (c : List Int) (i : Nat) : (toP c.reverse : Pl p).co i = if i ≤ c.length - 1 then row c (c.length - 1 - i) else 0 := by
  rw [toP_at]
  by_cases h : i < c.length
  · rw [getD_reverse_ c i h, if_pos (by omega)]; rfl
  · rw [getD_beyond _ (by rw [List.length_reverse]; omega)]
    split
    · rename_i h2
      rw [row_beyond (by omega)]; rfl
    · rfl
theorem tn_of {c : List Int} {L : Nat} (hl : c.length = L + 1) : Pl.Tn (row c : Nat → Fin p) L (toP c.reverse) := fun i => by
  rw [toP_reverse_at, hl, Nat.add_sub_cancel]
theorem top_of (hp : Md p) {c : List Int} (hc : IsRule p c) {L : Nat} (hl : c.length = L + 1) : Pl.sz (toP c.reverse : Pl p) = L + 1 ∧ (toP c.reverse : Pl p).co L = 1 := by
  have h1 : (toP c.reverse : Pl p).co L = 1 := by rw [tn_of hl L, if_pos (Nat.le_refl _), Nat.sub_self, hc.row0 hp]
  exact ⟨Pl.sz_eq (by rw [h1]; exact one_ne hp) (fun i hi => by rw [tn_of hl i, if_neg (by omega)]), h1⟩
end
end Fp

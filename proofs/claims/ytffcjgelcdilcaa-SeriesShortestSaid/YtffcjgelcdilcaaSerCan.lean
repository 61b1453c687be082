/- The reference's Can: whether the equations of a rule of a length can be solved, over a prime. Over the text of Can alone; no memory. -/
import Derived.Test.YtffcjgelcdilcaaSerRef
import Derived.Test.YtffcjgelcdilcaaRefInv
import Derived.Test.YtffcjgelcdilcaaGauss
import Derived.Test.YtffcjgelcdilcaaCan
set_option linter.unusedVariables false
set_option linter.unusedSimpArgs false
set_option linter.unusedSectionVars false
namespace Fp
open Classical
open Go Go.RowKit Go.Proofs.Ytffcjgelcdilcaa.PSer Go.Proofs.YtffcjgelcdilcaaW.PrintWords Go.Proofs.YtffcjgelcdilcaaW.PrintLast Go.Proofs.YtffcjgelcdilcaaW.PrintMore Go.Proofs.Ytffcjgelcdilcaa.Spec Go.Proofs.Ytffcjgelcdilcaa.Cn
section
variable {p : Nat} [NeZero p]

/-- Rows of equations as numbers modulo p. -/
def mat (rows : List (List Int)) (i j : Nat) : Fin p := row (rows.getD i []) j
/-- m rows of n + 1 numbers each. -/
structure RM (p m n : Nat) [NeZero p] (rows : List (List Int)) : Prop where
  len : rows.length = m
  each : ∀ i, i < m → In p (rows.getD i []) ∧ (rows.getD i []).length = n + 1
theorem rdL_nat (rows : List (List Int)) (i : Nat) : rd_L1 rows (i : Int) = rows.getD i [] := by unfold rd_L1; rw [Int.toNat_natCast]
theorem getD_setL (rows : List (List Int)) (i j : Nat) (r : List Int) (h : i < rows.length) : (rows.set i r).getD j [] = if j = i then r else rows.getD j [] := by
  by_cases e : j = i
  · subst e
    rw [if_pos rfl, List.getD_eq_getElem?_getD, List.getElem?_set_self h]; rfl
  · rw [if_neg e, List.getD_eq_getElem?_getD, List.getElem?_set_ne (by omega), ← List.getD_eq_getElem?_getD]
theorem RM.set {m n : Nat} {rows : List (List Int)} (h : RM p m n rows) {i : Nat} (hi : i < m) {r : List Int} (hr : In p r) (hl : r.length = n + 1) : RM p m n (rows.set i r) := by
  have hlen := h.len
  refine ⟨by rw [List.length_set]; exact h.len, fun j hj => ?_⟩
  rw [getD_setL rows i j r (by omega)]
  split
  · exact ⟨hr, hl⟩
  · exact h.each j hj

/-! ### One row less so often another one -/
theorem can_l5 (hp : Md p) {m n : Nat} (hn : n < 1000) (hm : m < 1000) {at_ i : Nat} (hat : at_ < i) (hi : i < m) {q : Int} (hq : 0 ≤ q ∧ q < p) (inv : Int) (r : Bool) (k0 : Nat) (d : Nat) :
    ∀ (j : Nat) (rows : List (List Int)), j + d = n + 1 → RM p m n rows →
      ∃ rows', RM p m n rows' ∧ (∀ i' j', (mat rows' i' j' : Fin p) = if i' = i ∧ j ≤ j' ∧ j' ≤ n then mat rows i' j' - toF q * mat rows at_ j' else mat rows i' j') ∧
        (Ev (fun K => affidavitref04_Can.l4 K p (n : Int) rows' (at_ : Int) (k0 : Int) inv ((i + 1 : Nat) : Int)) r → Ev (fun K => affidavitref04_Can.l5 K p (n : Int) rows (at_ : Int) (k0 : Int) inv (i : Int) q (j : Int)) r) := by
  induction d with
  | zero =>
    intro j rows hj hR
    have b1 : ¬ (j : Int) ≤ (n : Int) := by omega
    have e1 : wrap64 ((i : Int) + 1) = ((i + 1 : Nat) : Int) := by rw [w64_in (by omega) (by omega)]; omega
    refine ⟨rows, hR, fun i' j' => by rw [if_neg (by omega)], fun h => ?_⟩
    refine Ev.step (fun K => affidavitref04_Can.l5.eq_2 ..) (Ev.iteF b1 ?_)
    rw [e1]
    exact h
  | succ d ih =>
    intro j rows hj hR
    have hlen := hR.len
    have ri := hR.each i hi
    have ra := hR.each at_ (by omega)
    have b1 : (j : Int) ≤ (n : Int) := by omega
    have b2 : (0 : Int) ≤ (i : Int) := by omega
    have b3 : (i : Int) < (rows.length : Int) := by omega
    have b4 : (0 : Int) ≤ (j : Int) := by omega
    have b5 : (j : Int) < ((rows.getD i []).length : Int) := by rw [ri.2]; omega
    have b6 : (0 : Int) ≤ (at_ : Int) := by omega
    have b7 : (at_ : Int) < (rows.length : Int) := by omega
    have b8 : (j : Int) < ((rows.getD at_ []).length : Int) := by rw [ra.2]; omega
    have h1 := ra.1.get j
    have h2 := ri.1.get j
    have hm1 := emod_range (p := p) (q * (rows.getD at_ []).getD j 0)
    have hv := emod_range (p := p) ((rows.getD i []).getD j 0 - q * (rows.getD at_ []).getD j 0 % p)
    obtain ⟨v, hvd⟩ : ∃ v, ((rows.getD i []).getD j 0 - q * (rows.getD at_ []).getD j 0 % p) % p = v := ⟨_, rfl⟩
    have hvf : (toF v : Fin p) = mat rows i j - toF q * mat rows at_ j := by
      rw [← hvd, toF_sub h2.1 hm1.1, toF_mul hq.1 h1.1]; rfl
    rw [hvd] at hv
    have hR1 := hR.set hi (r := (rows.getD i []).set j v) (ri.1.set _ hv) (by rw [List.length_set, ri.2])
    obtain ⟨rows', g1, g2, g3⟩ := ih (j + 1) (rows.set i ((rows.getD i []).set j v)) (by omega) hR1
    have hmat : ∀ i' j', (mat (rows.set i ((rows.getD i []).set j v)) i' j' : Fin p) = if i' = i ∧ j' = j then toF v else mat rows i' j' := fun i' j' => by
      unfold mat
      rw [getD_setL rows i i' _ (by omega)]
      by_cases e : i' = i
      · rw [if_pos e, row_set (by rw [ri.2]; omega)]
        by_cases e2 : j' = j
        · rw [if_pos e2, if_pos ⟨e, e2⟩]
        · rw [if_neg e2, if_neg (fun h => e2 h.2), e]
      · rw [if_neg e, if_neg (fun h => e h.1)]
    refine ⟨rows', g1, fun i' j' => ?_, fun h => ?_⟩
    · rw [g2, hmat, hmat, if_neg (show ¬ (at_ = i ∧ j' = j) by omega)]
      by_cases e : i' = i ∧ j + 1 ≤ j' ∧ j' ≤ n
      · rw [if_pos e, if_neg (by omega), if_pos (by omega)]
      · rw [if_neg e]
        by_cases e2 : i' = i ∧ j' = j
        · rw [if_pos e2, if_pos (by omega), hvf, e2.1, e2.2]
        · rw [if_neg e2, if_neg (by omega)]
    · have g4 := g3 h
      have e1 : wrap64 ((j : Int) + 1) = ((j + 1 : Nat) : Int) := by rw [w64_in (by omega) (by omega)]; omega
      refine Ev.step (fun K => affidavitref04_Can.l5.eq_2 ..) (Ev.iteT b1 (Ev.iteT b2 (Ev.iteT b3 (Ev.iteT b4 ?_))))
      rw [rdL_nat, rdL_nat, rd_nat, rd_nat, e1, Int.toNat_natCast, Int.toNat_natCast]
      refine Ev.iteT b5 (Ev.iteT b6 (Ev.iteT b7 (Ev.iteT b8 (Ev.bind (a := q * (rows.getD at_ []).getD j 0 % p) ⟨65, fun K hK => refMul hp hq h1 hK⟩ (Ev.bind (a := v) (Ev.congr (f := fun _ => some v) (fun K => by rw [refSub hp h2 hm1, hvd]) (Ev.now _)) ?_)))))
      exact g4
/-! ### The rows below -/
theorem can_l4 (hp : Md p) {m n : Nat} (hn : n < 1000) (hm : m < 1000) {at_ k : Nat} (hk : k < n) {inv : Int} (hinv : 0 ≤ inv ∧ inv < p) (r : Bool) (d : Nat) :
    ∀ (i : Nat) (rows : List (List Int)), i + d = m → at_ < i → RM p m n rows →
      ∃ rows', RM p m n rows' ∧ (∀ i' j', (mat rows' i' j' : Fin p) = if i ≤ i' ∧ i' < m ∧ k ≤ j' ∧ j' ≤ n then mat rows i' j' - (mat rows i' k * toF inv) * mat rows at_ j' else mat rows i' j') ∧
        (Ev (fun K => affidavitref04_Can.l2 K p (n : Int) rows' ((at_ + 1 : Nat) : Int) ((k + 1 : Nat) : Int)) r → Ev (fun K => affidavitref04_Can.l4 K p (n : Int) rows (at_ : Int) (k : Int) inv (i : Int)) r) := by
  induction d with
  | zero =>
    intro i rows hi hat hR
    have hlen := hR.len
    have b1 : ¬ (i : Int) < (rows.length : Int) := by omega
    have e12 : wrap64 ((at_ : Int) + 1) = ((at_ + 1 : Nat) : Int) ∧ wrap64 ((k : Int) + 1) = ((k + 1 : Nat) : Int) := ⟨by rw [w64_in (by omega) (by omega)]; omega, by rw [w64_in (by omega) (by omega)]; omega⟩
    refine ⟨rows, hR, fun i' j' => by rw [if_neg (fun h => by omega)], fun h => ?_⟩
    refine Ev.step (fun K => affidavitref04_Can.l4.eq_2 ..) (Ev.iteF b1 ?_)
    rw [e12.1, e12.2]
    exact h
  | succ d ih =>
    intro i rows hi hat hR
    have hlen := hR.len
    have him : i < m := by omega
    have ri := hR.each i him
    have h1 := ri.1.get k
    have b1 : (i : Int) < (rows.length : Int) := by omega
    have b2 : (0 : Int) ≤ (i : Int) := by omega
    have b3 : (0 : Int) ≤ (k : Int) := by omega
    have b4 : (k : Int) < ((rows.getD i []).length : Int) := by rw [ri.2]; omega
    have hq := emod_range (p := p) ((rows.getD i []).getD k 0 * inv)
    obtain ⟨q, hqd⟩ : ∃ q, (rows.getD i []).getD k 0 * inv % p = q := ⟨_, rfl⟩
    have hqf : (toF q : Fin p) = mat rows i k * toF inv := by rw [← hqd, toF_mul h1.1 hinv.1]; rfl
    rw [hqd] at hq
    obtain ⟨rows1, g1, g2, g3⟩ := can_l5 hp hn hm hat him hq inv r k (n + 1 - k) k rows (by omega) hR
    obtain ⟨rows', f1, f2, f3⟩ := ih (i + 1) rows1 (by omega) (by omega) g1
    refine ⟨rows', f1, fun i' j' => ?_, fun h => ?_⟩
    · rw [f2]
      have ea : (mat rows1 at_ j' : Fin p) = mat rows at_ j' := by rw [g2, if_neg (by omega)]
      by_cases e : i + 1 ≤ i' ∧ i' < m ∧ k ≤ j' ∧ j' ≤ n
      · have e1 : (mat rows1 i' j' : Fin p) = mat rows i' j' := by rw [g2, if_neg (by omega)]
        have e2 : (mat rows1 i' k : Fin p) = mat rows i' k := by rw [g2, if_neg (by omega)]
        rw [if_pos e, if_pos (by omega), e1, e2, ea]
      · rw [if_neg e, g2]
        by_cases e2 : i' = i ∧ k ≤ j' ∧ j' ≤ n
        · rw [if_pos e2, if_pos (by omega), hqf, e2.1]
        · rw [if_neg e2, if_neg (by omega)]
    · have g4 := g3 (f3 h)
      refine Ev.step (fun K => affidavitref04_Can.l4.eq_2 ..) (Ev.iteT b1 (Ev.iteT b2 (Ev.iteT b3 ?_)))
      rw [rdL_nat, rd_nat]
      exact Ev.iteT b4 (Ev.bind (a := q) ⟨65, fun K hK => by rw [← hqd]; exact refMul hp h1 hinv hK⟩ g4)
/-! ### The last column -/
theorem can_l6 (hp : Md p) {m n : Nat} (hn : n < 1000) (hm : m < 1000) {rows : List (List Int)} (hR : RM p m n rows) (d : Nat) :
    ∀ i : Nat, d = m - i → i < 2000 → Ev (fun K => affidavitref04_Can.l6 K (n : Int) rows (i : Int)) (decide (∀ i', i ≤ i' → i' < m → (mat rows i' n : Fin p) = 0)) := by
  have hlen := hR.len
  induction d with
  | zero =>
    intro i hi hi2
    have b1 : ¬ (i : Int) < (rows.length : Int) := by omega
    rw [decide_eq_true (fun i' h1 h2 => absurd h2 (by omega))]
    exact Ev.step (fun K => affidavitref04_Can.l6.eq_2 ..) (Ev.iteF b1 (Ev.now _))
  | succ d ih =>
    intro i hi hi2
    have ri := hR.each i (by omega)
    have b1 : (i : Int) < (rows.length : Int) := by omega
    have b2 : (0 : Int) ≤ (i : Int) := by omega
    have b3 : (0 : Int) ≤ (n : Int) := by omega
    have b4 : (n : Int) < ((rows.getD i []).length : Int) := by rw [ri.2]; omega
    have h5 := ih (i + 1) (by omega) (by omega)
    have him : i < m := by omega
    have hz : (rows.getD i []).getD n 0 = 0 ↔ (mat rows i n : Fin p) = 0 := ⟨fun h => by unfold mat row; rw [h]; rfl, fun h => toF_inj (p := p) (ri.1.get n) ⟨by omega, by have := hp.1; omega⟩ (by rw [show (toF 0 : Fin p) = 0 from rfl]; exact h)⟩
    have e1 : wrap64 ((i : Int) + 1) = ((i + 1 : Nat) : Int) := by rw [w64_in (by omega) (by omega)]; omega
    refine Ev.step (fun K => affidavitref04_Can.l6.eq_2 ..) (Ev.iteT b1 (Ev.iteT b2 (Ev.iteT b3 ?_)))
    rw [rdL_nat, rd_nat, e1]
    refine Ev.iteT b4 ?_
    by_cases h : (mat rows i n : Fin p) = 0
    · refine Ev.iteT (hz.2 h) ?_
      have e : (decide (∀ i', i ≤ i' → i' < m → (mat rows i' n : Fin p) = 0)) = decide (∀ i', i + 1 ≤ i' → i' < m → (mat rows i' n : Fin p) = 0) := by
        by_cases h2 : ∀ i', i + 1 ≤ i' → i' < m → (mat rows i' n : Fin p) = 0
        · rw [decide_eq_true h2, decide_eq_true (fun i' h3 h4 => by
            by_cases e : i' = i
            · rw [e]; exact h
            · exact h2 i' (by omega) h4)]
        · rw [decide_eq_false h2, decide_eq_false (fun h3 => h2 fun i' h4 h5 => h3 i' (by omega) h5)]
      rw [e]
      exact h5
    · refine Ev.iteF (fun e => h (hz.1 e)) ?_
      rw [decide_eq_false (fun h2 => h (h2 i (Nat.le_refl _) him))]
      exact Ev.now _
/-! ### Two rows change places -/
theorem swp_get (rows : List (List Int)) {a f : Nat} (ha : a < rows.length) (hf : f < rows.length) (i : Nat) : (swp rows a f).getD i [] = if i = f then rows.getD a [] else if i = a then rows.getD f [] else rows.getD i [] := by
  unfold swp
  rw [getD_setL _ _ _ _ (by rw [List.length_set]; exact hf), getD_setL _ _ _ _ ha]
theorem RM.swp {m n : Nat} {rows : List (List Int)} (h : RM p m n rows) {a f : Nat} (ha : a < m) (hf : f < m) : RM p m n (swp rows a f) := by
  have hlen := h.len
  refine ⟨by rw [swp_length]; exact h.len, fun i hi => ?_⟩
  rw [swp_get rows (by omega) (by omega)]
  split
  · exact h.each a ha
  · split
    · exact h.each f hf
    · exact h.each i hi
theorem mat_swp (rows : List (List Int)) {a f : Nat} (ha : a < rows.length) (hf : f < rows.length) (i j : Nat) : (mat (swp rows a f) i j : Fin p) = if i = f then mat rows a j else if i = a then mat rows f j else mat rows i j := by
  unfold mat
  rw [swp_get rows ha hf]
  split
  · rfl
  · split <;> rfl
/-! ### The first row that isn't 0 in a column -/
theorem can_l3 (hp : Md p) {m n : Nat} (hn : n < 1000) (hm : m < 1000) {rows : List (List Int)} (hR : RM p m n rows) {at_ k : Nat} (hk : k < n) (r : Bool) (d : Nat) : ∀ i : Nat, i + d = m →
    (∀ f : Nat, Ev (fun K => affidavitref04_Can.l3 K p (n : Int) rows (at_ : Int) (k : Int) (f : Int) (m : Int)) r → Ev (fun K => affidavitref04_Can.l3 K p (n : Int) rows (at_ : Int) (k : Int) (f : Int) (i : Int)) r) ∧
    (((∀ i', i ≤ i' → i' < m → (mat rows i' k : Fin p) = 0) ∧ (Ev (fun K => affidavitref04_Can.l3 K p (n : Int) rows (at_ : Int) (k : Int) (-1) (m : Int)) r → Ev (fun K => affidavitref04_Can.l3 K p (n : Int) rows (at_ : Int) (k : Int) (-1) (i : Int)) r)) ∨
      ∃ f : Nat, i ≤ f ∧ f < m ∧ (mat rows f k : Fin p) ≠ 0 ∧ (Ev (fun K => affidavitref04_Can.l3 K p (n : Int) rows (at_ : Int) (k : Int) (f : Int) (m : Int)) r → Ev (fun K => affidavitref04_Can.l3 K p (n : Int) rows (at_ : Int) (k : Int) (-1) (i : Int)) r)) := by
  have hlen := hR.len
  induction d with
  | zero =>
    intro i hi
    rw [Nat.add_zero] at hi
    subst hi
    exact ⟨fun _ h => h, .inl ⟨fun i' h1 h2 => absurd h2 (by omega), fun h => h⟩⟩
  | succ d ih =>
    intro i hi
    have him : i < m := by omega
    have ri := hR.each i him
    have b1 : (i : Int) < (rows.length : Int) := by omega
    have b2 : (0 : Int) ≤ (i : Int) := by omega
    have b3 : (0 : Int) ≤ (k : Int) := by omega
    have b4 : (k : Int) < ((rows.getD i []).length : Int) := by rw [ri.2]; omega
    have hz : (rows.getD i []).getD k 0 = 0 ↔ (mat rows i k : Fin p) = 0 := ⟨fun h => by unfold mat row; rw [h]; rfl, fun h => toF_inj (p := p) (ri.1.get k) ⟨by omega, by have := hp.1; omega⟩ (by rw [show (toF 0 : Fin p) = 0 from rfl]; exact h)⟩
    obtain ⟨h1, h2⟩ := ih (i + 1) (by omega)
    have bf : ∀ f : Nat, ¬ ((f : Int) < 0) := fun f => by omega
    have bn : (-1 : Int) < 0 := by omega
    have b0 : ∀ i', i ≤ i' → i' ≠ i → i + 1 ≤ i' := fun i' h h' => by omega
    have e1 : wrap64 ((i : Int) + 1) = ((i + 1 : Nat) : Int) := by rw [w64_in (by omega) (by omega)]; omega
    have open_ : ∀ (x13 : Int) (g : Nat → Option Bool), Ev g r → (∀ K, g K = (if rd (rd_L1 rows (i : Int)) (k : Int) = 0 then affidavitref04_Can.l3 K p (n : Int) rows (at_ : Int) (k : Int) x13 ((i + 1 : Nat) : Int) else if x13 < 0 then affidavitref04_Can.l3 K p (n : Int) rows (at_ : Int) (k : Int) (i : Int) ((i + 1 : Nat) : Int) else affidavitref04_Can.l3 K p (n : Int) rows (at_ : Int) (k : Int) x13 ((i + 1 : Nat) : Int))) →
        Ev (fun K => affidavitref04_Can.l3 K p (n : Int) rows (at_ : Int) (k : Int) x13 (i : Int)) r := fun x13 g hg hgg => by
      refine Ev.step (fun K => affidavitref04_Can.l3.eq_2 ..) (Ev.iteT b1 (Ev.iteT b2 (Ev.iteT b3 (Ev.iteT (by rw [rdL_nat]; exact b4) ?_))))
      rw [e1]
      exact Ev.congr (fun K => (hgg K).symm) hg
    have go : ∀ (x13 : Int), (mat rows i k : Fin p) = 0 → Ev (fun K => affidavitref04_Can.l3 K p (n : Int) rows (at_ : Int) (k : Int) x13 ((i + 1 : Nat) : Int)) r → Ev (fun K => affidavitref04_Can.l3 K p (n : Int) rows (at_ : Int) (k : Int) x13 (i : Int)) r := fun x13 hz0 h =>
      open_ x13 _ h (fun K => by rw [rdL_nat, rd_nat, if_pos (hz.2 hz0)])
    have goF : ∀ (f : Nat), Ev (fun K => affidavitref04_Can.l3 K p (n : Int) rows (at_ : Int) (k : Int) (f : Int) ((i + 1 : Nat) : Int)) r → Ev (fun K => affidavitref04_Can.l3 K p (n : Int) rows (at_ : Int) (k : Int) (f : Int) (i : Int)) r := fun f h =>
      open_ (f : Int) _ h (fun K => by
        rw [rdL_nat, rd_nat]
        by_cases e : (rows.getD i []).getD k 0 = 0
        · rw [if_pos e]
        · rw [if_neg e, if_neg (bf f)])
    refine ⟨fun f h => goF f (h1 f h), ?_⟩
    by_cases hc : (mat rows i k : Fin p) = 0
    · rcases h2 with ⟨h3, h4⟩ | ⟨f, h3, h4, h5, h6⟩
      · refine .inl ⟨fun i' h7 h8 => ?_, fun h => go (-1) hc (h4 h)⟩
        by_cases e : i' = i
        · rw [e]; exact hc
        · exact h3 i' (b0 i' h7 e) h8
      · exact .inr ⟨f, by omega, h4, h5, fun h => go (-1) hc (h6 h)⟩
    · refine .inr ⟨i, Nat.le_refl _, him, hc, fun h => ?_⟩
      exact open_ (-1) _ (h1 i h) (fun K => by rw [rdL_nat, rd_nat, if_neg (fun e => hc (hz.1 e)), if_pos bn])
/-! ### Column by column -/
theorem can_l2 (hp : Md p) (hpr : Pr p) {m n : Nat} (hn : n < 1000) (hm : m < 1000) (d : Nat) : ∀ (k at_ : Nat) (rows : List (List Int)), k + d = n → at_ ≤ m → at_ < 1000 → RM p m n rows →
    Ev (fun K => affidavitref04_Can.l2 K p (n : Int) rows (at_ : Int) (k : Int)) (decide (Pl.Sol (mat rows : Nat → Nat → Fin p) at_ m k n)) := by
  have hf : Pl.Fld p := Pr.fld hpr
  induction d with
  | zero =>
    intro k at_ rows hk hat hat2 hR
    rw [Nat.add_zero] at hk
    subst hk
    have h6 := can_l6 hp hn hm hR (m - at_) at_ rfl (by omega)
    have e : (decide (Pl.Sol (mat rows : Nat → Nat → Fin p) at_ m k k)) = decide (∀ i', at_ ≤ i' → i' < m → (mat rows i' k : Fin p) = 0) := by
      rw [decide_eq_decide]
      exact Pl.Sol.last
    rw [e]
    exact Ev.step (fun K => affidavitref04_Can.l2.eq_2 ..) (Ev.iteF (by omega) h6)
  | succ d ih =>
    intro k at_ rows hk hat hat2 hR
    have hlen := hR.len
    have hkn : k < n := by omega
    have b1 : (k : Int) < (n : Int) := by omega
    refine Ev.step (fun K => affidavitref04_Can.l2.eq_2 ..) (Ev.iteT b1 ?_)
    have b2 : ¬ (m : Int) < (rows.length : Int) := by omega
    rcases (can_l3 hp hn hm hR (at_ := at_) hkn (decide (Pl.Sol (mat rows : Nat → Nat → Fin p) at_ m k n)) (m - at_) at_ (by omega)).2 with ⟨h3, h4⟩ | ⟨f, h3, h4, h5, h6⟩
    · refine h4 ?_
      have e : (decide (Pl.Sol (mat rows : Nat → Nat → Fin p) at_ m k n)) = decide (Pl.Sol (mat rows : Nat → Nat → Fin p) at_ m (k + 1) n) := by
        rw [decide_eq_decide]
        exact Pl.Sol.skip h3
      have h7 := ih (k + 1) at_ rows (by omega) hat hat2 hR
      have e1 : wrap64 ((k : Int) + 1) = ((k + 1 : Nat) : Int) := by rw [w64_in (by omega) (by omega)]; omega
      refine Ev.step (fun K => affidavitref04_Can.l3.eq_2 ..) (Ev.iteF b2 (Ev.iteT (by decide) ?_))
      rw [e1, e]
      exact h7
    · refine h6 ?_
      have ham : at_ < m := by omega
      have hR1 := hR.swp ham h4
      have ra := hR1.each at_ ham
      have hpiv : (mat (swp rows at_ f) at_ k : Fin p) = mat rows f k := by
        rw [mat_swp rows (by omega) (by omega)]
        by_cases e : at_ = f
        · rw [if_pos e, e]
        · rw [if_neg e, if_pos rfl]
      have hne : (mat (swp rows at_ f) at_ k : Fin p) ≠ 0 := by rw [hpiv]; exact h5
      have hv := ra.1.get k
      obtain ⟨v, hvd⟩ : ∃ v, ((swp rows at_ f).getD at_ []).getD k 0 = v := ⟨_, rfl⟩
      have hvm : (mat (swp rows at_ f) at_ k : Fin p) = toF v := by rw [← hvd]; rfl
      rw [hvd] at hv
      have hv0 : v ≠ 0 := fun e => hne (by rw [hvm, e]; rfl)
      have hg : Nat.gcd p v.toNat = 1 := by
        rw [Nat.gcd_comm]
        refine Pr.coprime hpr (fun hd => ?_)
        have := Nat.le_of_dvd (by omega) hd
        omega
      obtain ⟨z, z1, z2, z3⟩ := evRefInv hp hv hg
      rw [toF_one hp] at z3
      obtain ⟨rows', g1, g2, g3⟩ := can_l4 hp hn hm (at_ := at_) hkn z2 (decide (Pl.Sol (mat rows : Nat → Nat → Fin p) at_ m k n)) (m - (at_ + 1)) (at_ + 1) (swp rows at_ f) (by omega) (by omega) hR1
      have e : (decide (Pl.Sol (mat rows : Nat → Nat → Fin p) at_ m k n)) = decide (Pl.Sol (mat rows' : Nat → Nat → Fin p) (at_ + 1) m (k + 1) n) := by
        rw [decide_eq_decide, Pl.Sol.swap ham h3 h4 (fun i j => mat_swp rows (by omega) (by omega) i j)]
        refine Pl.Sol.step hf ham hkn hne (fun i => mat (swp rows at_ f) i k * toF z) (fun i j h7 h8 h9 h10 => ?_) (fun i h7 h8 => ?_)
        · rw [g2, if_pos (by omega)]
        · rw [g2, if_pos (by omega)]
          have : (mat (swp rows at_ f) i k * toF z * mat (swp rows at_ f) at_ k : Fin p) = mat (swp rows at_ f) i k * (toF v * toF z) := by rw [hvm]; grind
          rw [this, z3]; grind
      have h7 := ih (k + 1) (at_ + 1) rows' (by omega) (by omega) (by omega) g1
      rw [← e] at h7
      have h8 := g3 h7
      have hsl : (swp rows at_ f).length = rows.length := swp_length _ _ _
      have q1 : (0 : Int) ≤ (at_ : Int) ∧ (at_ : Int) < (rows.length : Int) ∧ (0 : Int) ≤ (f : Int) ∧ (f : Int) < (rows.length : Int) := by omega
      have q2 : ¬ (f : Int) < 0 := by omega
      have q3 : (at_ : Int) < ((swp rows at_ f).length : Int) := by omega
      have q4 : (0 : Int) ≤ (k : Int) := by omega
      have q5 : (k : Int) < (((swp rows at_ f).getD at_ []).length : Int) := by rw [ra.2]; omega
      have e1 : wrap64 ((at_ : Int) + 1) = ((at_ + 1 : Nat) : Int) := by rw [w64_in (by omega) (by omega)]; omega
      refine Ev.step (fun K => affidavitref04_Can.l3.eq_2 ..) (Ev.iteF b2 (Ev.iteF q2 (Ev.iteT q1 ?_)))
      rw [Int.toNat_natCast, Int.toNat_natCast]
      refine Ev.bind (Ev.now _) (Ev.iteT q1.1 (Ev.iteT q3 (Ev.iteT q4 ?_)))
      rw [rdL_nat, rd_nat, hvd, e1]
      exact Ev.iteT q5 (Ev.bind z1 h8)
end
end Fp

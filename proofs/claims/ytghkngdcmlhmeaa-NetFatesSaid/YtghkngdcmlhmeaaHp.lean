/- Binary heaps in lists, plainly: down, up, build, pop, taken; a row that is put in order. No memory, no program. -/
import Derived.Test.YtghkngdcmlhmeaaProg
set_option linter.unusedVariables false
set_option linter.unusedSimpArgs false
set_option linter.unusedSectionVars false
namespace Go.Proofs.Ytghkngdcmlhmeaa.Hp
variable {α : Type}
/-- Elements i and j change places. -/
def sw (z : α) (l : List α) (i j : Nat) : List α := (l.set i (l.getD j z)).set j (l.getD i z)
theorem sw_length (z : α) (l : List α) (i j : Nat) : (sw z l i j).length = l.length := by simp [sw]
theorem getD_set (z : α) (l : List α) (i k : Nat) (a : α) (hi : i < l.length) : (l.set i a).getD k z = if k = i then a else l.getD k z := by
  simp only [List.getD_eq_getElem?_getD]
  by_cases h : k = i
  · subst h; simp [hi]
  · rw [if_neg h, List.getElem?_set_ne (fun e => h e.symm)]
theorem sw_getD (z : α) (l : List α) (i j k : Nat) (hi : i < l.length) (hj : j < l.length) : (sw z l i j).getD k z = if k = j then l.getD i z else if k = i then l.getD j z else l.getD k z := by
  unfold sw
  rw [getD_set z _ j k _ (by simpa using hj), getD_set z _ i k _ hi]
theorem perm_of_countP {l m : List α} (h : ∀ p : α → Bool, l.countP p = m.countP p) : l.Perm m := by
  classical
  exact List.perm_iff_count.mpr (fun a => h (fun x => x == a))
theorem countP_set' (p : α → Bool) (l : List α) (i : Nat) (a : α) (hi : i < l.length) : (l.set i a).countP p + (if p l[i] then 1 else 0) = l.countP p + (if p a then 1 else 0) := by
  have h := List.countP_set (p := p) (a := a) hi
  have h2 : p l[i] = true → 0 < l.countP p := fun hp => List.countP_pos_iff.mpr ⟨l[i], List.getElem_mem hi, hp⟩
  rw [h]
  by_cases hp : p l[i] = true
  · have := h2 hp
    simp only [hp, if_true]
    omega
  · simp only [hp]
    simp
theorem getD_lt (z : α) (l : List α) (i : Nat) (hi : i < l.length) : l.getD i z = l[i] := by simp [List.getD_eq_getElem?_getD, hi]
theorem sw_perm (z : α) (l : List α) (i j : Nat) (hi : i < l.length) (hj : j < l.length) : (sw z l i j).Perm l := by
  refine perm_of_countP (fun p => ?_)
  unfold sw
  rw [getD_lt z l i hi, getD_lt z l j hj]
  have h1 := countP_set' p l i l[j] hi
  have h2 := countP_set' p (l.set i l[j]) j l[i] (by simpa using hj)
  have h3 : (l.set i l[j])[j]'(by simpa using hj) = l[j] := by
    rw [List.getElem_set]; split <;> rfl
  rw [h3] at h2
  omega
section
variable (lt : α → α → Bool) (z : α)
/-- Which of i's children goes up. -/
def kid (l : List α) (i n : Nat) : Nat := if 2 * i + 2 < n ∧ lt (l.getD (2 * i + 2) z) (l.getD (2 * i + 1) z) = true then 2 * i + 2 else 2 * i + 1
def dn : Nat → List α → Nat → Nat → List α
  | 0, l, _, _ => l
  | k + 1, l, i, n => if n ≤ 2 * i + 1 then l else if lt (l.getD (kid lt z l i n) z) (l.getD i z) = true then dn k (sw z l i (kid lt z l i n)) (kid lt z l i n) n else l
def upw : Nat → List α → Nat → List α
  | 0, l, _ => l
  | k + 1, l, j => if (j - 1) / 2 = j then l else if lt (l.getD j z) (l.getD ((j - 1) / 2) z) = true then upw k (sw z l ((j - 1) / 2) j) ((j - 1) / 2) else l
def ini (n : Nat) : Nat → List α → List α
  | 0, l => l
  | m + 1, l => ini n m (dn lt z n l m n)
/-- All of l in the heap's order. -/
def heaped (l : List α) : List α := ini lt z l.length (l.length / 2) l
/-- What is left where the first one has gone. -/
def popped (l : List α) : List α := (dn lt z (l.length - 1) (sw z l 0 (l.length - 1)) 0 (l.length - 1)).take (l.length - 1)
def pushed (l : List α) (x : α) : List α := upw lt z (l.length + 1) (l ++ [x]) l.length
def tk (p : α → Bool) : Nat → List α → List α × List α
  | 0, l => ([], l)
  | k + 1, l => if 0 < l.length ∧ p (l.getD 0 z) = true then (l.getD 0 z :: (tk p k (popped lt z l)).1, (tk p k (popped lt z l)).2) else ([], l)
variable {lt z}
theorem kid_lt {l : List α} {i n : Nat} (h : ¬ n ≤ 2 * i + 1) : kid lt z l i n < n ∧ i < kid lt z l i n ∧ (kid lt z l i n - 1) / 2 = i := by
  unfold kid
  split <;> rename_i hc
  · omega
  · omega
theorem dn_length : ∀ (k : Nat) (l : List α) (i n : Nat), (dn lt z k l i n).length = l.length
  | 0, _, _, _ => rfl
  | k + 1, l, i, n => by
    unfold dn
    split
    · rfl
    · split
      · rw [dn_length k, sw_length]
      · rfl
theorem dn_perm : ∀ (k : Nat) (l : List α) (i n : Nat), n ≤ l.length → (dn lt z k l i n).Perm l
  | 0, _, _, _, _ => List.Perm.refl _
  | k + 1, l, i, n, hn => by
    unfold dn
    split
    · exact List.Perm.refl _
    · rename_i h
      split
      · obtain ⟨h1, h2, _⟩ := kid_lt (lt := lt) (z := z) (l := l) h
        exact (dn_perm k _ _ n (by rw [sw_length]; exact hn)).trans (sw_perm z l i _ (by omega) (by omega))
      · exact List.Perm.refl _
theorem dn_far : ∀ (k : Nat) (l : List α) (i n : Nat), n ≤ l.length → ∀ j, n ≤ j → (dn lt z k l i n).getD j z = l.getD j z
  | 0, _, _, _, _, _, _ => rfl
  | k + 1, l, i, n, hn, j, hj => by
    unfold dn
    split
    · rfl
    · rename_i h
      split
      · obtain ⟨h1, h2, _⟩ := kid_lt (lt := lt) (z := z) (l := l) h
        rw [dn_far k _ _ n (by rw [sw_length]; exact hn) j hj, sw_getD z l i _ j (by omega) (by omega), if_neg (by omega), if_neg (by omega)]
      · rfl
/-- From place m on each is no less than the one above it. -/
def Ok (lt : α → α → Bool) (z : α) (l : List α) (n m : Nat) : Prop := ∀ k, 0 < k → k < n → m ≤ (k - 1) / 2 → lt (l.getD k z) (l.getD ((k - 1) / 2) z) = false
variable (asym : ∀ a b, lt a b = true → lt b a = false) (trans : ∀ a b c, lt b a = false → lt c b = false → lt c a = false)
include asym trans
theorem dn_ok (lo : Nat) : ∀ (k : Nat) (l : List α) (i n : Nat), n ≤ l.length → n - i ≤ k → lo ≤ i →
    (∀ k, 0 < k → k < n → lo ≤ (k - 1) / 2 → (k - 1) / 2 ≠ i → lt (l.getD k z) (l.getD ((k - 1) / 2) z) = false) →
    (∀ k, 0 < k → k < n → (k - 1) / 2 = i → 0 < i → lo ≤ (i - 1) / 2 → lt (l.getD k z) (l.getD ((i - 1) / 2) z) = false) → Ok lt z (dn lt z k l i n) n lo
  | 0, l, i, n, hn, hk, hlo, hA, hB => by
    intro q h0 h1 h2
    exact hA q h0 h1 h2 (by omega)
  | k + 1, l, i, n, hn, hk, hlo, hA, hB => by
    unfold dn
    split
    · rename_i h
      intro q h0 h1 h2
      exact hA q h0 h1 h2 (by omega)
    · rename_i h
      obtain ⟨h1, h2, h3⟩ := kid_lt (lt := lt) (z := z) (l := l) h
      have hkid : ∀ q, 0 < q → q < n → (q - 1) / 2 = i → lt (l.getD q z) (l.getD (kid lt z l i n) z) = false := by
        intro q g0 g1 g2
        have self : ∀ a, lt a a = false := fun a => by
          by_cases e : lt a a = true
          · exact asym a a e
          · simpa using e
        have hq : q = 2 * i + 1 ∨ q = 2 * i + 2 := by omega
        unfold kid
        split <;> rename_i hc
        · rcases hq with rfl | rfl
          · exact asym _ _ hc.2
          · exact self _
        · rcases hq with rfl | rfl
          · exact self _
          · by_cases e : lt (l.getD (2 * i + 2) z) (l.getD (2 * i + 1) z) = true
            · exact absurd ⟨g1, e⟩ hc
            · simpa using e
      generalize hj : kid lt z l i n = j at h1 h2 h3 hkid
      split
      · rename_i hlt
        have hsw := fun q => sw_getD z l i j q (by omega) (by omega)
        refine dn_ok lo k (sw z l i j) j n (by rw [sw_length]; exact hn) (by omega) (by omega) ?_ ?_
        · intro q g0 g1 g2 g3
          by_cases e1 : (q - 1) / 2 = i
          · rw [hsw ((q - 1) / 2), if_neg (by omega), if_pos e1]
            by_cases e2 : q = j
            · rw [hsw q, if_pos e2]; exact asym _ _ hlt
            · rw [hsw q, if_neg e2, if_neg (by omega)]
              exact hkid q g0 g1 e1
          · rw [hsw ((q - 1) / 2), if_neg (by omega), if_neg e1]
            by_cases e2 : q = i
            · rw [hsw q, if_neg (by omega), if_pos e2]
              have := hB j (by omega) h1 h3 (by omega) (by rw [e2] at g2; exact g2)
              rw [e2]; exact this
            · by_cases e3 : q = j
              · rw [e3] at e1; exact absurd h3 e1
              · rw [hsw q, if_neg e3, if_neg e2]
                exact hA q g0 g1 g2 e1
        · intro q g0 g1 g2 g3 g4
          rw [hsw ((j - 1) / 2), if_neg (by omega), if_pos h3, hsw q, if_neg (by omega), if_neg (by omega)]
          have := hA q g0 g1 (by omega) (by omega)
          rw [g2] at this
          exact this
      · rename_i hlt
        have hlt' : lt (l.getD j z) (l.getD i z) = false := by simpa using hlt
        intro q g0 g1 g2
        by_cases e : (q - 1) / 2 = i
        · rw [e]
          exact trans _ _ _ hlt' (hkid q g0 g1 e)
        · exact hA q g0 g1 g2 e
theorem ini_ok (n : Nat) : ∀ (m : Nat) (l : List α), l.length = n → Ok lt z l n m → Ok lt z (ini lt z n m l) n 0
  | 0, _, _, h => h
  | m + 1, l, hl, h => by
    unfold ini
    refine ini_ok n m _ (by rw [dn_length, hl]) ?_
    refine dn_ok asym trans m n l m n (by omega) (by omega) (Nat.le_refl _) ?_ ?_
    · intro q g0 g1 g2 g3
      exact h q g0 g1 (by omega)
    · intro q g0 g1 g2 g3 g4
      omega
theorem heaped_ok (l : List α) : Ok lt z (heaped lt z l) l.length 0 := ini_ok asym trans l.length _ l rfl (fun q g0 g1 g2 => by omega)
omit asym trans
theorem ini_perm (n : Nat) : ∀ (m : Nat) (l : List α), l.length = n → (ini lt z n m l).Perm l
  | 0, _, _ => List.Perm.refl _
  | m + 1, l, hl => by
    unfold ini
    exact (ini_perm n m _ (by rw [dn_length, hl])).trans (dn_perm _ _ _ _ (by omega))
theorem heaped_perm (l : List α) : (heaped lt z l).Perm l := ini_perm _ _ _ rfl
theorem heaped_length (l : List α) : (heaped lt z l).length = l.length := (heaped_perm l).length_eq
theorem upw_length : ∀ (k : Nat) (l : List α) (j : Nat), (upw lt z k l j).length = l.length
  | 0, _, _ => rfl
  | k + 1, l, j => by
    unfold upw
    split
    · rfl
    · split
      · rw [upw_length k, sw_length]
      · rfl
theorem upw_perm : ∀ (k : Nat) (l : List α) (j : Nat), j < l.length → (upw lt z k l j).Perm l
  | 0, _, _, _ => List.Perm.refl _
  | k + 1, l, j, hj => by
    unfold upw
    split
    · exact List.Perm.refl _
    · split
      · exact (upw_perm k _ _ (by rw [sw_length]; omega)).trans (sw_perm z l _ j (by omega) hj)
      · exact List.Perm.refl _
include asym trans
theorem upw_ok (n : Nat) : ∀ (k : Nat) (l : List α) (j : Nat), n = l.length → j < n → j < k →
    (∀ q, 0 < q → q < n → q ≠ j → lt (l.getD q z) (l.getD ((q - 1) / 2) z) = false) →
    (∀ q, 0 < q → q < n → (q - 1) / 2 = j → 0 < j → lt (l.getD q z) (l.getD ((j - 1) / 2) z) = false) → Ok lt z (upw lt z k l j) n 0
  | 0, _, _, _, _, hk, _, _ => by omega
  | k + 1, l, j, hn, hj, hk, hA, hB => by
    unfold upw
    split
    · rename_i h
      intro q g0 g1 _
      exact hA q g0 g1 (by omega)
    · rename_i h
      generalize hi : (j - 1) / 2 = i at h hB ⊢
      split
      · rename_i hlt
        have hsw := fun q => sw_getD z l i j q (by omega) (by omega)
        refine upw_ok n k (sw z l i j) i (by rw [sw_length]; exact hn) (by omega) (by omega) ?_ ?_
        · intro q g0 g1 g2
          by_cases e1 : q = j
          · rw [hsw q, if_pos e1, e1, hi, hsw i, if_neg (by omega), if_pos rfl]
            exact asym _ _ hlt
          · rw [hsw q, if_neg e1, if_neg g2]
            by_cases e2 : (q - 1) / 2 = i
            · rw [e2, hsw i, if_neg (by omega), if_pos rfl]
              have h1 := hA q g0 g1 e1
              rw [e2] at h1
              exact trans _ _ _ (asym _ _ hlt) h1
            · by_cases e3 : (q - 1) / 2 = j
              · rw [e3, hsw j, if_pos rfl]
                exact hB q g0 g1 e3 (by omega)
              · rw [hsw ((q - 1) / 2), if_neg e3, if_neg e2]
                exact hA q g0 g1 e1
        · intro q g0 g1 g2 g3
          have hp := hA i g3 (by omega) (by omega)
          rw [hsw ((i - 1) / 2), if_neg (by omega), if_neg (by omega)]
          by_cases e1 : q = j
          · rw [hsw q, if_pos e1]; exact hp
          · rw [hsw q, if_neg e1, if_neg (by omega)]
            have h1 := hA q g0 g1 e1
            rw [g2] at h1
            exact trans _ _ _ hp h1
      · rename_i hlt
        have hlt' : lt (l.getD j z) (l.getD i z) = false := by simpa using hlt
        intro q g0 g1 _
        by_cases e : q = j
        · rw [e, hi]; exact hlt'
        · exact hA q g0 g1 e
theorem pushed_ok (l : List α) (x : α) (h : Ok lt z l l.length 0) : Ok lt z (pushed lt z l x) (l.length + 1) 0 := by
  unfold pushed
  refine upw_ok asym trans (l.length + 1) (l.length + 1) (l ++ [x]) l.length (by simp) (by omega) (by omega) ?_ ?_
  · intro q g0 g1 g2
    have h1 := h q g0 (by omega) (by omega)
    have e : ∀ m, m < l.length → (l ++ [x]).getD m z = l.getD m z := fun m hm => by
      simp only [List.getD_eq_getElem?_getD]; rw [List.getElem?_append_left hm]
    rw [e q (by omega), e _ (by omega)]
    exact h1
  · intro q g0 g1 g2 g3
    omega
theorem ok_first {l : List α} {n : Nat} (h : Ok lt z l n 0) : ∀ k, k < n → lt (l.getD k z) (l.getD 0 z) = false := by
  intro k
  induction k using Nat.strongRecOn with
  | _ k ih =>
    intro hk
    by_cases h0 : k = 0
    · subst h0
      by_cases e : lt (l.getD 0 z) (l.getD 0 z) = true
      · exact asym _ _ e
      · simpa using e
    · exact trans _ _ _ (ih ((k - 1) / 2) (by omega) (by omega)) (h k (by omega) hk (by omega))
theorem popped_ok {l : List α} (h : Ok lt z l l.length 0) : Ok lt z (popped lt z l) (l.length - 1) 0 := by
  have e : ∀ (m : List α) (j n : Nat), j < n → (m.take n).getD j z = m.getD j z := fun m j n hj => by
    simp only [List.getD_eq_getElem?_getD]; rw [List.getElem?_take_of_lt hj]
  have hd : Ok lt z (dn lt z (l.length - 1) (sw z l 0 (l.length - 1)) 0 (l.length - 1)) (l.length - 1) 0 := by
    by_cases hl : l.length = 0
    · intro q g0 g1 _; omega
    have hsw := fun q => sw_getD z l 0 (l.length - 1) q (by omega) (by omega)
    refine dn_ok asym trans 0 _ _ 0 _ (by rw [sw_length]; omega) (by omega) (Nat.le_refl _) ?_ ?_
    · intro q g0 g1 _ g3
      rw [hsw q, if_neg (by omega), if_neg (by omega), hsw ((q - 1) / 2), if_neg (by omega), if_neg g3]
      exact h q g0 (by omega) (by omega)
    · intro q _ _ _ g; omega
  intro q g0 g1 g2
  unfold popped
  rw [e _ _ _ g1, e _ _ _ (by omega)]
  exact hd q g0 g1 g2
omit asym trans
theorem popped_length (l : List α) : (popped lt z l).length = l.length - 1 := by
  unfold popped
  rw [List.length_take, dn_length, sw_length]
  omega
theorem popped_perm {l : List α} (hl : 0 < l.length) : (l.getD 0 z :: popped lt z l).Perm l := by
  have h1 := dn_perm (lt := lt) (z := z) (l.length - 1) (sw z l 0 (l.length - 1)) 0 (l.length - 1) (by rw [sw_length]; omega)
  have h2 := dn_far (lt := lt) (z := z) (l.length - 1) (sw z l 0 (l.length - 1)) 0 (l.length - 1) (by rw [sw_length]; omega) (l.length - 1) (Nat.le_refl _)
  rw [sw_getD z l 0 _ _ hl (by omega), if_pos rfl] at h2
  have h3 : (dn lt z (l.length - 1) (sw z l 0 (l.length - 1)) 0 (l.length - 1)).length = l.length := by rw [dn_length, sw_length]
  unfold popped
  generalize dn lt z (l.length - 1) (sw z l 0 (l.length - 1)) 0 (l.length - 1) = d at h1 h2 h3 ⊢
  have h4 : d = d.take (l.length - 1) ++ [l.getD 0 z] := by
    conv => lhs; rw [← List.take_append_drop (l.length - 1) d]
    congr 1
    rw [List.drop_eq_getElem_cons (by omega), List.drop_eq_nil_of_le (by omega)]
    rw [getD_lt z d _ (by omega)] at h2
    rw [h2]
  have h5 : (l.getD 0 z :: d.take (l.length - 1)).Perm d := by
    conv => rhs; rw [h4]
    exact (List.perm_append_comm (l₁ := [l.getD 0 z]) (l₂ := d.take (l.length - 1)))
  exact h5.trans (h1.trans (sw_perm z l 0 _ hl (by omega)))
theorem pushed_perm (l : List α) (x : α) : (pushed lt z l x).Perm (x :: l) := by
  unfold pushed
  exact (upw_perm _ _ _ (by simp)).trans (List.perm_append_comm (l₁ := l) (l₂ := [x]))
include asym trans
/-- What is taken: in order, ahead of the rest; the rest is a heap that is empty or whose first one isn't such. -/
theorem tk_spec (p : α → Bool) : ∀ (k : Nat) (l : List α), l.length ≤ k → Ok lt z l l.length 0 →
    ((tk lt z p k l).1 ++ (tk lt z p k l).2).Perm l ∧ (tk lt z p k l).1.Pairwise (fun a b => lt b a = false) ∧ (∀ a ∈ (tk lt z p k l).1, p a = true ∧ ∀ b ∈ (tk lt z p k l).2, lt b a = false) ∧
    Ok lt z (tk lt z p k l).2 (tk lt z p k l).2.length 0 ∧ ((tk lt z p k l).2 = [] ∨ p ((tk lt z p k l).2.getD 0 z) = false)
  | 0, l, hk, h => by
    obtain rfl : l = [] := List.eq_nil_of_length_eq_zero (by omega)
    exact ⟨List.Perm.refl _, List.Pairwise.nil, by simp [tk], by intro q _ g _; simp [tk] at g, .inl rfl⟩
  | k + 1, l, hk, h => by
    unfold tk
    split
    · rename_i hc
      have hpl := popped_length (lt := lt) (z := z) l
      obtain ⟨i1, i2, i3, i4, i5⟩ := tk_spec p k (popped lt z l) (by omega) (by rw [hpl]; exact popped_ok asym trans h)
      have hp := popped_perm (lt := lt) (z := z) hc.1
      have hf := ok_first asym trans h
      have hmin : ∀ b ∈ l, lt b (l.getD 0 z) = false := by
        intro b hb
        obtain ⟨q, hq, rfl⟩ := List.getElem_of_mem hb
        have := hf q hq
        rw [getD_lt z l q hq] at this
        exact this
      have hmin2 : ∀ b ∈ (tk lt z p k (popped lt z l)).1 ++ (tk lt z p k (popped lt z l)).2, lt b (l.getD 0 z) = false := fun b hb => hmin b (hp.mem_iff.mp (List.mem_cons_of_mem _ (i1.mem_iff.mp hb)))
      refine ⟨(List.Perm.cons _ i1).trans hp, List.Pairwise.cons (fun b hb => hmin2 b (List.mem_append_left _ hb)) i2, ?_, i4, i5⟩
      intro a ha
      rcases List.mem_cons.mp ha with rfl | ha
      · exact ⟨hc.2, fun b hb => hmin2 b (List.mem_append_right _ hb)⟩
      · exact i3 a ha
    · rename_i hc
      refine ⟨List.Perm.refl _, List.Pairwise.nil, by simp, h, ?_⟩
      cases l with
      | nil => exact .inl rfl
      | cons x xs =>
        refine .inr ?_
        by_cases e : p ((x :: xs).getD 0 z) = true
        · exact absurd ⟨by simp, e⟩ hc
        · simpa using e
end
section
variable (lt : α → α → Bool)
/-- x behind all that it isn't less than. -/
def insr (x : α) : List α → List α
  | [] => [x]
  | y :: l => if lt x y = true then x :: y :: l else y :: insr x l
/-- One by one put in its place. -/
def srt (l : List α) : List α := l.foldl (fun acc x => insr lt x acc) []
variable {lt}
theorem insr_perm (x : α) : ∀ l : List α, (insr lt x l).Perm (x :: l)
  | [] => List.Perm.refl _
  | y :: l => by
    unfold insr
    split
    · exact List.Perm.refl _
    · exact (List.Perm.cons y (insr_perm x l)).trans (List.Perm.swap x y l)
theorem foldl_perm : ∀ (l acc : List α), (l.foldl (fun acc x => insr lt x acc) acc).Perm (l ++ acc)
  | [], acc => List.Perm.refl _
  | x :: l, acc => by
    simp only [List.foldl_cons]
    refine (foldl_perm l _).trans ?_
    refine (List.Perm.append_left l (insr_perm x acc)).trans ?_
    exact List.perm_middle
theorem srt_perm (l : List α) : (srt lt l).Perm l := by
  have := foldl_perm (lt := lt) l []
  simpa [srt] using this
variable (asym : ∀ a b, lt a b = true → lt b a = false) (trans : ∀ a b c, lt b a = false → lt c b = false → lt c a = false)
include asym trans
theorem insr_sorted (x : α) : ∀ l : List α, l.Pairwise (fun a b => lt b a = false) → (insr lt x l).Pairwise (fun a b => lt b a = false)
  | [], _ => List.pairwise_singleton _ _
  | y :: l, h => by
    unfold insr
    have h1 := List.pairwise_cons.mp h
    split
    · rename_i hc
      refine List.Pairwise.cons (fun b hb => ?_) h
      rcases List.mem_cons.mp hb with rfl | hb
      · exact asym _ _ hc
      · exact trans _ _ _ (asym _ _ hc) (h1.1 b hb)
    · rename_i hc
      refine List.Pairwise.cons (fun b hb => ?_) (insr_sorted x l h1.2)
      rcases List.mem_cons.mp ((insr_perm x l).mem_iff.mp hb) with rfl | hb
      · simpa using hc
      · exact h1.1 b hb
theorem srt_sorted (l : List α) : (srt lt l).Pairwise (fun a b => lt b a = false) := by
  have : ∀ (l acc : List α), acc.Pairwise (fun a b => lt b a = false) → (l.foldl (fun acc x => insr lt x acc) acc).Pairwise (fun a b => lt b a = false) := by
    intro l
    induction l with
    | nil => exact fun acc h => h
    | cons x l ih => exact fun acc h => ih _ (insr_sorted asym trans x acc h)
  exact this l [] List.Pairwise.nil
/-- Rows in order of the same elements are one row, where none but one and the same go neither way. -/
theorem sorted_one (anti : ∀ a b, lt a b = false → lt b a = false → a = b) {l m : List α} (hl : l.Pairwise (fun a b => lt b a = false)) (hm : m.Pairwise (fun a b => lt b a = false)) (h : l.Perm m) : l = m :=
  List.Perm.eq_of_pairwise (fun a b _ _ h1 h2 => anti a b h2 h1) hl hm h
end
end Go.Proofs.Ytghkngdcmlhmeaa.Hp

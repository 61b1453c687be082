/- Regions that draw their order: the order. -/
import Derived.Test.YtanpdkllnmeenaaAmDraw2
namespace Go.Proofs.Ytanpdkllnmeenaa.Am
open Go Go.RowKit
set_option linter.unusedVariables false
set_option linter.unusedSectionVars false
set_option linter.unusedSimpArgs false
section
variable {P : Program} {C : Ctx} {F F' F1 F'' : Nat → Prop} {w w' : World} {β β' β0 : Bd} {H H' H1 G H0 : Heap}
variable {L : Nat → Prop} {X : List Value} {w0 : World} {F0 : Nat → Prop} {n : Nat} {sl : List Slot} {env : List AV} {a : Act} {o : Oper} {v : AV} {base : Nat → Prop} {D : Nat → Prop} {st st' : St}
/-- What 'drawAt' says. -/
structure DrawOk (ops : Array Oper) (len q : Nat) (late : List Bool) : Prop where
  le : q ≤ ops.size
  lt : ∀ (i : Nat) (o : Oper), ops.toList[i]? = some o → ∀ j ∈ edges o, j < i
  dst : ∀ (i : Nat) (o : Oper) (t : Nat), ops.toList[i]? = some o → o.dst = some t → t < len
  tail : ∀ (i : Nat) (o : Oper), ops.toList[i]? = some o → q ≤ i → ∀ j, j < i → ((clos ops.toList []).getD i 0).testBit j = true ∨ late.getD j false = true
  one : ∀ (i j : Nat) (oi oj : Oper) (t : Nat), i < q → j < q → i ≠ j → ops.toList[i]? = some oi → ops.toList[j]? = some oj → oj.dst = some t → oi.dst ≠ some t
  look : ∀ (i j : Nat) (oi oj : Oper) (t : Nat), i < q → j < q → i ≠ j → ops.toList[i]? = some oi → ops.toList[j]? = some oj → oj.dst = some t → t ∈ oi.looksAt ops → ((clos ops.toList []).getD i 0).testBit j = true ∨ ((clos ops.toList []).getD j 0).testBit i = true
  len_ : late.length = q
  late : ∀ (j : Nat) (o : Oper), late.getD j false = true → ops.toList[j]? = some o → o.guard = none ∧ ∃ t, o.dst = some t ∧
    ¬ t ∈ o.looksAt ops ∧ (∀ (i : Nat) (oi : Oper) (u : Nat), i < q → i ≠ j → ops.toList[i]? = some oi → oi.dst = some u → u ∈ o.looksAt ops → ((clos ops.toList []).getD j 0).testBit i = true) ∧
    (∀ (i : Nat) (oi : Oper), q ≤ i → ops.toList[i]? = some oi → oi.dst ≠ some t ∧ (t ∈ oi.looksAt ops → ((clos ops.toList []).getD i 0).testBit j = true) ∧ ∀ u, oi.dst = some u → ¬ u ∈ o.looksAt ops)
theorem zip_mem {α : Type} {l : List α} {i : Nat} {x : α} (h : l[i]? = some x) : (x, i) ∈ l.zipIdx := by
  rw [List.mem_zipIdx_iff_getElem?]; exact h
theorem tailAt_le (cl : List Nat) : ∀ n, tailAt cl n ≤ n
  | 0 => Nat.le_refl _
  | n + 1 => by
    rw [tailAt]
    split
    · exact Nat.le_succ_of_le (tailAt_le cl n)
    · exact Nat.le_refl _
theorem late_lt {l : List Bool} {j : Nat} (h : l.getD j false = true) : j < l.length := by
  rw [List.getD_eq_getElem?_getD] at h
  cases hx : l[j]? with
  | none => rw [hx] at h; simp at h
  | some y => exact (List.getElem?_eq_some_iff.1 hx).1
theorem drawAt_ok {ops : Array Oper} {len q : Nat} {late : List Bool} (h : drawAt ops len = some (q, late)) : DrawOk ops len q late := by
  unfold drawAt at h
  simp only [] at h
  split at h
  case isFalse => simp at h
  rename_i hc
  injection h with h
  injection h with hq hl
  rw [hq] at hl
  rw [hq, hl] at hc
  rw [Bool.and_eq_true, Bool.and_eq_true] at hc
  obtain ⟨h1, h2, h3⟩ := hc
  have hll : late.length = q := by rw [← hl]; simp [lates]
  have hle : q ≤ ops.size := by rw [← hq]; exact Nat.le_trans (Nat.min_le_left _ _) (tailAt_le _ _)
  have a1 : ∀ i o, ops.toList[i]? = some o → _ := fun i o ho => List.all_eq_true.1 h1 _ (zip_mem ho)
  simp only [Bool.and_eq_true, List.all_eq_true, decide_eq_true_eq, Bool.or_eq_true, beq_iff_eq, List.mem_range] at a1
  have key : ∀ i j oi oj, i < q → j < q → i ≠ j → ops.toList[i]? = some oi → ops.toList[j]? = some oj → (match oj.dst with | none => true | some t => oi.dst != some t && (!(oi.looksAt ops).contains t || (((clos ops.toList []).getD i 0).testBit j || ((clos ops.toList []).getD j 0).testBit i))) = true := by
    intro i j oi oj hi hj hne hoi hoj
    have e1 : (ops.toList.take q)[i]? = some oi := by rw [List.getElem?_take_of_lt hi]; exact hoi
    have e2 : (ops.toList.take q)[j]? = some oj := by rw [List.getElem?_take_of_lt hj]; exact hoj
    have b1 := List.all_eq_true.1 h2 _ (zip_mem e1)
    unfold quietOk at b1
    have b2 := List.all_eq_true.1 b1 _ (zip_mem e2)
    simp only [Bool.or_eq_true, beq_iff_eq] at b2
    rcases b2 with b2 | b2
    · exact absurd b2.symm hne
    · exact b2
  refine ⟨hle, fun i o ho j hj => (a1 i o ho).1 j hj, fun i o t ho hd => ?_, fun i o ho hqi j hj => ?_, fun i j oi oj t hi hj hne hoi hoj hd => ?_, fun i j oi oj t hi hj hne hoi hoj hd ht => ?_, hll, fun j o hlj ho => ?_⟩
  · have := (a1 i o ho).2.1
    rw [hd] at this
    simpa using this
  · rcases (a1 i o ho).2.2 with h | h
    · omega
    · exact h j hj
  · have := key i j oi oj hi hj hne hoi hoj
    rw [hd] at this
    simp only [Bool.and_eq_true, bne_iff_ne, ne_eq] at this
    exact this.1
  · have := key i j oi oj hi hj hne hoi hoj
    rw [hd] at this
    simp only [Bool.and_eq_true, Bool.or_eq_true] at this
    rcases this.2 with h | h
    · simp at h; exact absurd ht h
    · exact h
  · have hjq : j < q := by rw [← hll]; exact late_lt hlj
    have e2 : (ops.toList.take q)[j]? = some o := by rw [List.getElem?_take_of_lt hjq]; exact ho
    have b1 := List.all_eq_true.1 h3 _ (zip_mem e2)
    simp only [hlj, Bool.not_true, Bool.false_or] at b1
    unfold lateOk at b1
    simp only [Bool.and_eq_true, Option.isNone_iff_eq_none] at b1
    obtain ⟨b1, b2⟩ := b1
    refine ⟨b1, ?_⟩
    cases hd : o.dst with
    | none => rw [hd] at b2; simp at b2
    | some t =>
      rw [hd] at b2
      simp only [Bool.and_eq_true, List.all_eq_true] at b2
      obtain ⟨b0, b2⟩ := b2
      refine ⟨t, rfl, by simpa using b0, fun i oi u hi hne hoi hdi hu => ?_, fun i oi hi hoi => ?_⟩
      · have := b2 _ (zip_mem hoi)
        simp only [Bool.or_eq_true, beq_iff_eq, hi, decide_true, hdi] at this
        rcases this with e | e | e
        · exact absurd e hne
        · simp at e; exact absurd hu e
        · exact e
      · have := b2 _ (zip_mem hoi)
        have hni : ¬ i < q := by omega
        have hnj : i ≠ j := by omega
        simp only [Bool.or_eq_true, beq_iff_eq, hni, decide_false, hnj, false_or, Bool.and_eq_true, bne_iff_ne, ne_eq] at this
        obtain ⟨c1, c2, c3⟩ := this
        refine ⟨c1, fun ht => ?_, fun u hu => ?_⟩
        · rcases c2 with e | e
          · simp at e; exact absurd ht e
          · exact e
        · rw [hu] at c3
          simpa using c3
/-! ### The ready ones -/
def Lst (listed : Array Bool) (i : Nat) : Prop := listed.getD i false = true
theorem lst_set {listed : Array Bool} {i j : Nat} (hi : i < listed.size) : Lst (listed.setIfInBounds i true) j ↔ j = i ∨ Lst listed j := by
  unfold Lst
  rw [Array.getD_eq_getD_getElem?, Array.getD_eq_getD_getElem?, Array.getElem?_setIfInBounds]
  by_cases h : i = j
  · subst h; simp [hi]
  · rw [if_neg h]
    constructor
    · exact fun h => .inr h
    · rintro (e | e)
      · exact absurd e.symm h
      · exact e
theorem ready_iff {ops : Array Oper} {listed : Array Bool} (hsz : listed.size = ops.size) {i : Nat} : i ∈ Region.ready .any ops listed ↔ ∃ o, ops.toList[i]? = some o ∧ ¬ Lst listed i ∧ ∀ j ∈ edges o, Lst listed j := by
  unfold Region.ready
  simp only [List.mem_filter, List.mem_range, Bool.and_eq_true, Bool.not_eq_true']
  constructor
  · rintro ⟨hi, hl, h⟩
    have ho : ops[i]? = some ops[i] := Array.getElem?_eq_getElem hi
    rw [ho] at h
    simp only [Option.map_some, Option.getD_some] at h
    refine ⟨ops[i], by rw [Array.getElem?_toList]; exact ho, ?_, fun j hj => ?_⟩
    · unfold Lst
      have : listed.getD i true = listed.getD i false := by simp [hsz, hi]
      rw [← this, hl]; simp
    · simp only [edges, List.mem_map, List.mem_filter] at hj
      obtain ⟨e, ⟨he, hb⟩, rfl⟩ := hj
      have := Array.all_eq_true_iff_forall_mem.1 h e (by simpa using he)
      rw [hb] at this
      simpa [Lst] using this
  · rintro ⟨o, ho, hl, h⟩
    rw [Array.getElem?_toList] at ho
    have hi := (Array.getElem?_eq_some_iff.1 ho).1
    refine ⟨hi, ?_, ?_⟩
    · unfold Lst at hl
      have : listed.getD i true = listed.getD i false := by simp [hsz, hi]
      rw [this]; simpa using hl
    · rw [ho]
      simp only [Option.map_some, Option.getD_some]
      refine Array.all_eq_true_iff_forall_mem.2 fun e he => ?_
      cases hb : Region.binds .any e with
      | false => rfl
      | true =>
        have := h e.on (by simp only [edges, List.mem_map, List.mem_filter]; exact ⟨e, ⟨by simpa using he, hb⟩, rfl⟩)
        simpa [Lst] using this
def cnt (n : Nat) (listed : Array Bool) : Nat := ((List.range n).filter fun i => !listed.getD i false).length
theorem filter_lt {α : Type} {p p' : α → Bool} : ∀ {l : List α}, (∀ x, p' x = true → p x = true) → (∃ i ∈ l, p i = true ∧ p' i = false) → (l.filter p').length < (l.filter p).length
  | [], _, h => by obtain ⟨i, h, _⟩ := h; simp at h
  | x :: l, hp, ⟨i, hi, h1, h2⟩ => by
    have hle : ∀ l : List α, (l.filter p').length ≤ (l.filter p).length := fun l => by
      induction l with
      | nil => simp
      | cons y l ih =>
        simp only [List.filter_cons]
        cases hy : p' y with
        | true => simp [hp y hy, ih]
        | false => cases p y <;> simp <;> omega
    rcases List.mem_cons.1 hi with rfl | hi
    · simp only [List.filter_cons, h1, h2, if_true, List.length_cons]
      have := hle l
      simp
      omega
    · have ih := filter_lt hp ⟨i, hi, h1, h2⟩
      simp only [List.filter_cons]
      cases hx : p' x with
      | true => simp [hp x hx]; exact ih
      | false => cases p x <;> simp <;> omega
theorem cnt_set {n i : Nat} {listed : Array Bool} (hi : i < n) (hs : listed.size = n) (hl : ¬ Lst listed i) : cnt n (listed.setIfInBounds i true) < cnt n listed := by
  refine filter_lt (fun x hx => ?_) ⟨i, List.mem_range.2 hi, ?_, ?_⟩
  · have := (lst_set (listed := listed) (i := i) (j := x) (by omega))
    unfold Lst at this
    cases h : listed.getD x false with
    | false => rfl
    | true => rw [this.2 (.inr h)] at hx; simp at hx
  · unfold Lst at hl; simpa using hl
  · have := (lst_set (listed := listed) (i := i) (j := i) (by omega)).2 (.inl rfl)
    unfold Lst at this; rw [this]; rfl
theorem cnt_pos {n i : Nat} {listed : Array Bool} (hi : i < n) (hl : ¬ Lst listed i) : 0 < cnt n listed := by
  unfold cnt
  refine List.length_pos_of_mem (a := i) (List.mem_filter.2 ⟨List.mem_range.2 hi, ?_⟩)
  unfold Lst at hl
  simpa using hl
/-- One operation of the tail. -/
theorem opsK_step {R : Type} {call : CallK R} {ops : Array Oper} {Q : Exit → Act → World → Prop} {N : Act → World → Prop} (hc : CallS P call) (cx : CtxOk P C) {rest : List Oper} {q : Nat} {K : St → Option R} {out : R} (h : opsK C call ops q [] (o :: rest) st K = some out) (hs : Sim L w0 F0 X st a w)
    (hN : ∀ st' a' w', opsK C call ops (q - 1) [] rest st' K = some out → (∃ v, st'.env = put st.env o.dst v) → Sim L w0 F0 X st' a' w' → N a' w') : if Region.wanted o (yielded ops a.tmps) then o.wp P a w N Q ∨ (o.asks P a w ∧ LetsOut Q) else N (a.put o.dst undef) w := by
  obtain ⟨F, β, gd, hd, hsz, henv⟩ := hs
  simp only [opsK, List.headD_nil, List.tail_nil] at h
  split at h
  · rename_i hg
    rw [if_pos (by simp [Region.wanted, hg])]
    left
    obtain ⟨v, H', h1, hst⟩ := doK_ok hc gd cx henv h
    exact hst _ _ fun v' w' F' β' g2 k2 r => hN _ _ _ h1 ⟨_, rfl⟩ (sim_next gd hd hsz henv g2 k2 r)
  · rename_i j want hg
    split at h
    · simp at h
    · rename_i d hdst
      split at h
      case h_3 => simp at h
      case h_2 =>
        rename_i hb
        rw [if_neg (by simp [Region.wanted, hg, yield_skip hdst (henv d) hb])]
        exact hN _ _ _ h ⟨_, rfl⟩ (sim_next gd hd hsz henv gd ⟨fun _ h => h, fun _ _ => rfl, fun _ _ h => h, fun h s hs => ⟨s, hs, like_refl s⟩⟩ rep_skip)
      rename_i b hb
      have hset : st.env.set d (.one (.bool b)) = st.env := set_same hb (by simp)
      have hyield : yielded ops a.tmps j = some b := by
        unfold yielded
        rw [hdst]
        simp only [Option.bind_some, env_bool (henv d) hb]
      have hwant : Region.wanted o (yielded ops a.tmps) = (b == want) := by
        simp [Region.wanted, hg, hyield]
      have go : doK C call (0 < q) o st.env st.heap (fun v H => opsK C call ops (q - 1) [] rest ⟨put st.env o.dst v, H, st.roots⟩ K) = some out → o.wp P a w N Q := fun hh => by
        obtain ⟨v, H', h1, hst⟩ := doK_ok hc gd cx henv hh
        exact hst _ _ fun v' w' F' β' g2 k2 r => hN _ _ _ h1 ⟨_, rfl⟩ (sim_next gd hd hsz henv g2 k2 r)
      have skip : opsK C call ops (q - 1) [] rest ⟨put st.env o.dst (.tup []), st.heap, st.roots⟩ K = some out → N (a.put o.dst undef) w := fun hh =>
        hN _ _ _ hh ⟨_, rfl⟩ (sim_next gd hd hsz henv gd ⟨fun _ h => h, fun _ _ => rfl, fun _ _ h => h, fun h s hs => ⟨s, hs, like_refl s⟩⟩ rep_skip)
      cases b with
      | true =>
        rw [hset] at h
        cases want with
        | true => rw [if_pos (by simp [hwant])]; exact .inl (go h)
        | false => rw [if_neg (by simp [hwant])]; exact skip h
      | false =>
        rw [hset] at h
        cases want with
        | true => rw [if_neg (by simp [hwant])]; exact skip h
        | false => rw [if_pos (by simp [hwant])]; exact .inl (go h)
end
end Go.Proofs.Ytanpdkllnmeenaa.Am

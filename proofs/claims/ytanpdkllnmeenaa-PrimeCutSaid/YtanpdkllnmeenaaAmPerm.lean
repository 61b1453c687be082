/- Regions that draw their order, numbered anew. -/
import Derived.Test.YtanpdkllnmeenaaAmDraw4
namespace Go.Proofs.Ytanpdkllnmeenaa.Am
open Go Go.RowKit
set_option linter.unusedVariables false
set_option linter.unusedSectionVars false
section
variable {P : Program} {ops ops' : Array Oper} {Q : Exit → Act → World → Prop} {ord : List Nat}
theorem ord_perm (ops : Array Oper) : (ordOf ops).Nodup ∧ (∀ i, i ∈ ordOf ops ↔ i < ops.size) ∧ (ordOf ops).length = ops.size := by
  have key : ∀ (f : Nat → Bool) (l : List Nat), l.Nodup → (l.filter (fun i => !f i) ++ l.filter (fun i => f i)).Perm l := by
    intro f l hl
    induction l with
    | nil => simp
    | cons x l ih =>
      rw [List.nodup_cons] at hl
      rw [List.filter_cons, List.filter_cons]
      cases hf : f x with
      | true =>
        simp only [Bool.not_true, Bool.false_eq_true, if_false, if_true]
        exact List.perm_middle.trans ((ih hl.2).cons x)
      | false =>
        simp only [Bool.not_false, Bool.false_eq_true, if_false, if_true]
        exact (ih hl.2).cons x
  have h := key (fun i => (depE ops.toList []).getD i false) (List.range ops.size) List.nodup_range
  refine ⟨h.nodup_iff.2 List.nodup_range, fun i => ?_, ?_⟩
  · rw [show i ∈ ordOf ops ↔ i ∈ List.range ops.size from h.mem_iff, List.mem_range]
  · rw [show (ordOf ops).length = _ from h.length_eq, List.length_range]
section
variable (hn : ord.Nodup) (hm : ∀ i, i ∈ ord ↔ i < ops.size) (hl : ord.length = ops.size)
include hn hm hl
theorem pos_at {i : Nat} (h : i < ops.size) : (posOf ord).getD i ops.size = ord.idxOf i := by
  unfold posOf
  rw [List.getD_eq_getElem?_getD, List.getElem?_map, List.getElem?_range (by omega)]
  rfl
theorem pos_out {i : Nat} (h : ops.size ≤ i) : (posOf ord).getD i ops.size = ops.size := by
  unfold posOf
  rw [List.getD_eq_getElem?_getD, List.getElem?_eq_none (by simp; omega)]
  rfl
theorem pos_lt {i : Nat} (h : i < ops.size) : ord.idxOf i < ops.size := by
  rw [← hl]
  exact List.idxOf_lt_length_of_mem ((hm i).2 h)
theorem reord_list : (reord ord ops).toList = ord.map fun i => renO (posOf ord) ops.size (ops.getD i default) := by
  unfold reord
  simp only []
  have : ∀ l : List Nat, (∀ i ∈ l, i < ops.size) → (l.filterMap fun i => (ops[i]?).map (renO (posOf ord) ops.size)) = l.map fun i => renO (posOf ord) ops.size (ops.getD i default) := by
    intro l
    induction l with
    | nil => intro _; rfl
    | cons x l ih =>
      intro h
      have hx := h x List.mem_cons_self
      rw [List.filterMap_cons, Array.getElem?_eq_getElem hx, Option.map_some, List.map_cons, ih fun i hi => h i (List.mem_cons_of_mem _ hi), Array.getD_eq_getD_getElem?, Array.getElem?_eq_getElem hx]
      rfl
  exact this ord fun i hi => (hm i).1 hi
theorem reord_size : (reord ord ops).size = ops.size := by
  rw [← Array.length_toList, reord_list hn hm hl, List.length_map, hl]
theorem reord_at {i : Nat} {o : Oper} (h : ops[i]? = some o) : (reord ord ops)[ord.idxOf i]? = some (renO (posOf ord) ops.size o) := by
  have hi := (Array.getElem?_eq_some_iff.1 h).1
  have h1 := List.idxOf_lt_length_of_mem ((hm i).2 hi)
  rw [← Array.getElem?_toList, reord_list hn hm hl, List.getElem?_map, List.getElem?_eq_getElem h1, List.getElem_idxOf h1, Option.map_some, Array.getD_eq_getD_getElem?, h]
  rfl
theorem perm_ready {listed listed' : Array Bool} (h1 : listed.size = ops.size) (h2 : listed'.size = ops.size) (h3 : ∀ i, i < ops.size → listed'.getD (ord.idxOf i) false = listed.getD i false) {i : Nat} (hi : i < ops.size) :
    i ∈ Region.ready .any ops listed ↔ ord.idxOf i ∈ Region.ready .any (reord ord ops) listed' := by
  have hp := pos_lt hn hm hl hi
  have e3 : ∀ (b : Bool) (i : Nat), i < ops.size → listed'.getD (ord.idxOf i) b = listed.getD i b := fun b i hi => by
    have := h3 i hi
    have hp := pos_lt hn hm hl hi
    rw [Array.getD_eq_getD_getElem?, Array.getD_eq_getD_getElem?, Array.getElem?_eq_getElem (by omega), Array.getElem?_eq_getElem (by omega)] at this ⊢
    exact this
  obtain ⟨o, ho⟩ : ∃ o, ops[i]? = some o := ⟨_, Array.getElem?_eq_getElem hi⟩
  unfold Region.ready
  rw [List.mem_filter, List.mem_filter, List.mem_range, List.mem_range, reord_size hn hm hl, reord_at hn hm hl ho, ho, e3 true i hi]
  have e4 : (renO (posOf ord) ops.size o).after.all (fun e => !Region.binds .any e || listed'.getD e.on false) = o.after.all (fun e => !Region.binds .any e || listed.getD e.on false) := by
    show (o.after.map (renE (posOf ord) ops.size)).all _ = _
    rw [Array.all_map]
    congr 1
    funext e
    show (!Region.binds .any e || listed'.getD ((posOf ord).getD e.on ops.size) false) = _
    congr 1
    by_cases c : e.on < ops.size
    · rw [pos_at hn hm hl c]; exact h3 _ c
    · rw [pos_out hn hm hl (by omega), Array.getD_eq_getD_getElem?, Array.getD_eq_getD_getElem?, Array.getElem?_eq_none (by omega), Array.getElem?_eq_none (by omega)]
  simp only [Option.map_some, Option.getD_some, e4, hi, hp, true_and]
theorem perm_yield (tmps : Array Value) (j : Nat) : yielded (reord ord ops) tmps ((posOf ord).getD j ops.size) = yielded ops tmps j := by
  unfold yielded
  by_cases c : j < ops.size
  · obtain ⟨o, ho⟩ : ∃ o, ops[j]? = some o := ⟨_, Array.getElem?_eq_getElem c⟩
    rw [pos_at hn hm hl c, reord_at hn hm hl ho, ho]
    rfl
  · rw [pos_out hn hm hl (by omega), Array.getElem?_eq_none (by rw [reord_size hn hm hl]; omega), Array.getElem?_eq_none (by omega)]
theorem perm_op {i : Nat} (hi : i < ops.size) {K K' : Act → World → Prop} (hK : ∀ a w, K' a w → K a w) {a : Act} {w : World} (h : wpOp P (reord ord ops) Q (ord.idxOf i) K' a w) : wpOp P ops Q i K a w := by
  obtain ⟨o, ho⟩ : ∃ o, ops[i]? = some o := ⟨_, Array.getElem?_eq_getElem hi⟩
  have h := wpOp_mono hK h
  unfold wpOp at h ⊢
  rw [reord_at hn hm hl ho] at h
  rw [ho]
  simp only [] at h ⊢
  have e : Region.wanted (renO (posOf ord) ops.size o) (yielded (reord ord ops) a.tmps) = Region.wanted o (yielded ops a.tmps) := by
    unfold Region.wanted renO
    cases hg : o.guard with
    | none => simp
    | some p =>
      simp only [Option.map_some]
      rw [perm_yield hn hm hl]
  rw [e] at h
  exact h
theorem perm_any : ∀ (fuel : Nat) (listed listed' : Array Bool) (a : Act) (w : World), listed.size = ops.size → listed'.size = ops.size → (∀ i, i < ops.size → listed'.getD (ord.idxOf i) false = listed.getD i false) →
    wpAny P .any (reord ord ops) Q fuel listed' a w → wpAny P .any ops Q fuel listed a w := by
  have fwd : ∀ {listed listed' : Array Bool}, listed.size = ops.size → listed'.size = ops.size → (∀ i, i < ops.size → listed'.getD (ord.idxOf i) false = listed.getD i false) → Region.ready .any ops listed = [] → Region.ready .any (reord ord ops) listed' = [] := by
    intro listed listed' h1 h2 h3 h
    apply List.eq_nil_iff_forall_not_mem.2
    intro j hj
    have hjl : j < ops.size := by
      unfold Region.ready at hj
      rw [List.mem_filter, List.mem_range, reord_size hn hm hl] at hj
      exact hj.1
    have hjo : j < ord.length := by omega
    have hlt := (hm ord[j]).1 (List.getElem_mem hjo)
    have e : ord.idxOf ord[j] = j := hn.idxOf_getElem j hjo
    have := (perm_ready hn hm hl h1 h2 h3 hlt).2 (by rw [e]; exact hj)
    rw [h] at this
    cases this
  have bwd : ∀ {listed listed' : Array Bool}, listed.size = ops.size → listed'.size = ops.size → (∀ i, i < ops.size → listed'.getD (ord.idxOf i) false = listed.getD i false) → Region.ready .any (reord ord ops) listed' = [] → Region.ready .any ops listed = [] := by
    intro listed listed' h1 h2 h3 h
    apply List.eq_nil_iff_forall_not_mem.2
    intro j hj
    have hjl : j < ops.size := by
      unfold Region.ready at hj
      rw [List.mem_filter, List.mem_range] at hj
      exact hj.1
    have := (perm_ready hn hm hl h1 h2 h3 hjl).1 hj
    rw [h] at this
    cases this
  intro fuel
  induction fuel with
  | zero =>
    intro listed listed' a w h1 h2 h3 h
    exact ⟨bwd h1 h2 h3 h.1, h.2⟩
  | succ fuel ih =>
    intro listed listed' a w h1 h2 h3 h
    refine ⟨fun hr => h.1 (fwd h1 h2 h3 hr), fun i hi => ?_⟩
    have hil : i < ops.size := by
      unfold Region.ready at hi
      rw [List.mem_filter, List.mem_range] at hi
      exact hi.1
    have hp := pos_lt hn hm hl hil
    refine perm_op hn hm hl hil (fun a w => ih _ _ a w (by simp [h1]) (by simp [h2]) fun j hj => ?_) (h.2 _ ((perm_ready hn hm hl h1 h2 h3 hil).1 hi))
    have hpj := pos_lt hn hm hl hj
    rw [Array.getD_eq_getD_getElem?, Array.getD_eq_getD_getElem?, Array.getElem?_setIfInBounds, Array.getElem?_setIfInBounds]
    by_cases c : i = j
    · subst c
      rw [if_pos rfl, if_pos rfl, if_pos (by omega), if_pos (by omega)]
    · have c2 : ord.idxOf i ≠ ord.idxOf j := fun e => c (by
        have h4 := List.getElem_idxOf (List.idxOf_lt_length_of_mem ((hm i).2 hil))
        have h5 := List.getElem_idxOf (List.idxOf_lt_length_of_mem ((hm j).2 hj))
        rw [← h4, ← h5]
        congr 1)
      rw [if_neg c2, if_neg c]
      have := h3 j hj
      rw [Array.getD_eq_getD_getElem?, Array.getD_eq_getD_getElem?] at this
      exact this
end
end
end Go.Proofs.Ytanpdkllnmeenaa.Am

/- A range over a map: whichever order its keys come in, if what is made of the list is the same for all orders. -/
import Derived.Test.YtanpdkllnmeenaaAmShows
namespace Go.Proofs.Ytanpdkllnmeenaa.Am
open Go
theorem pick_none {V R : Type} {es : List (Unit × Int × V)} {seen : List Nat} {over : Option R} {f : Nat → (Unit × Int × V) → Option R} (h : cands es.length seen = []) : pickAll es seen over f = over := by
  unfold pickAll; rw [h]; rfl
theorem pick_each {V R : Type} {es : List (Unit × Int × V)} {seen : List Nat} {over : Option R} {f : Nat → (Unit × Int × V) → Option R} {b : Option R} (hne : cands es.length seen ≠ []) (h : ∀ i ∈ cands es.length seen, ∀ e, f i e = b) : pickAll es seen over f = b := by
  unfold pickAll
  have hlt : ∀ i ∈ cands es.length seen, i < es.length := fun i hi => by
    unfold cands at hi
    rw [List.mem_filter, List.mem_range] at hi
    exact hi.1
  have hmem : ∀ p ∈ (cands es.length seen).filterMap (fun i => (es[i]?).map fun x => (i, x)), f p.1 p.2 = b := fun p hp => by
    rw [List.mem_filterMap] at hp
    obtain ⟨i, hi, he⟩ := hp
    rw [Option.map_eq_some_iff] at he
    obtain ⟨x, _, rfl⟩ := he
    exact h i hi x
  cases hc : cands es.length seen with
  | nil => exact absurd hc hne
  | cons i r =>
    have hi := hlt i (by rw [hc]; exact List.mem_cons_self ..)
    rw [hc] at hmem
    rw [List.filterMap_cons, List.getElem?_eq_getElem hi, Option.map_some] at hmem ⊢
    dsimp only at hmem ⊢
    rw [if_pos, hmem _ (List.mem_cons_self ..)]
    intro q hq
    rw [hmem q (List.mem_cons_of_mem _ hq), hmem _ (List.mem_cons_self ..)]
theorem cands_perm {n i : Nat} {seen : List Nat} (h : i ∈ cands n seen) : (cands n seen).Perm (i :: cands n (seen ++ [i])) := by
  have hn : (cands n seen).Nodup := by unfold cands; exact List.nodup_range.filter _
  have e : cands n (seen ++ [i]) = (cands n seen).erase i := by
    rw [hn.erase_eq_filter]
    unfold cands
    rw [List.filter_filter]
    apply List.filter_congr
    intro j _
    by_cases hj : j = i
    · subst hj; simp
    · have : (j == i) = false := beq_eq_false_iff_ne.2 hj
      simp [hj]
  rw [e]
  exact List.perm_cons_erase h
theorem cur_last {V : Type} (d : V) (es : List (Unit × Int × V)) (seen : List Nat) (i : Nat) : cur d es (seen ++ [i]) = es.getD i ((), 0, d) := by
  unfold cur
  congr 1
  simp
end Go.Proofs.Ytanpdkllnmeenaa.Am
namespace Go.Proofs.Ytanpdkllnmeenaa.M
set_option linter.unusedVariables false
set_option maxRecDepth 100000
open Go Go.RowKit Go.Proofs Go.Proofs.Ytanpdkllnmeenaa.Am
/-- The value of the key that lies at i. -/
def valAt (es : List (Unit × Int × Int × Int × List (Int × Int))) (i : Nat) : Int × Int × List (Int × Int) := (es.getD i ((), 0, (0, 0, []))).2.2
theorem l4_spec {k : Nat} {R : Type} (x0 : List (Int × Int × List (Int × Int)) → Option R) (es : List (Unit × Int × Int × Int × List (Int × Int))) (hes : es.length < 1000000) (hp : ∀ l l', l.Perm (es.map (·.2.2)) → l'.Perm (es.map (·.2.2)) → x0 l = x0 l') (d : Nat) : ∀ (m : Nat) (out : List (Int × Int × List (Int × Int))) (seen : List Nat), (cands es.length seen).length = d → d < m → out.length + d ≤ 1000000 → (out ++ (cands es.length seen).map (valAt es)).Perm (es.map (·.2.2)) →
    prime_Build.L4 k x0 m out es seen = x0 (es.map (·.2.2)) := by
  induction d with
  | zero =>
    intro m out seen hd hm ho hperm
    obtain ⟨m, rfl⟩ : ∃ j, m = j + 1 := ⟨m - 1, by omega⟩
    simp only [prime_Build.L4, prime_Build.B4]
    have hc := List.length_eq_zero_iff.1 hd
    rw [pick_none hc]
    rw [hc, List.map_nil, List.append_nil] at hperm
    exact hp _ _ hperm (List.Perm.refl _)
  | succ d ih =>
    intro m out seen hd hm ho hperm
    obtain ⟨m, rfl⟩ : ∃ j, m = j + 1 := ⟨m - 1, by omega⟩
    simp only [prime_Build.L4, prime_Build.B4]
    refine pick_each (fun h => by rw [h] at hd; cases hd) (fun i hi e => ?_)
    have hpm := cands_perm hi
    have hlen : (cands es.length (seen ++ [i])).length = d := by have := hpm.length_eq; rw [hd, List.length_cons] at this; omega
    rw [cur_last]
    have hne : (!(seen ++ [i]).isEmpty) = true := by simp
    rw [hne, cond_true, dT (by rw [List.length_append, List.length_singleton]; omega)]
    refine ih m _ _ hlen (by omega) (by rw [List.length_append, List.length_singleton]; omega) (List.Perm.trans ?_ hperm)
    rw [List.append_assoc]
    exact List.Perm.append_left _ (hpm.map (valAt es)).symm
theorem l4_all {k : Nat} {R : Type} (x0 : List (Int × Int × List (Int × Int)) → Option R) (es : List (Unit × Int × Int × Int × List (Int × Int))) (hes : es.length < 1000000) (hp : ∀ l l', l.Perm (es.map (·.2.2)) → l'.Perm (es.map (·.2.2)) → x0 l = x0 l') {m : Nat} (hm : es.length < m) : prime_Build.L4 k x0 m [] es [] = x0 (es.map (·.2.2)) := by
  have hc : cands es.length [] = List.range es.length := by unfold cands; exact List.filter_eq_self.2 fun _ _ => rfl
  refine l4_spec x0 es hes hp es.length m [] [] (by rw [hc, List.length_range]) hm (by simp; omega) ?_
  rw [hc, List.nil_append]
  have : (List.range es.length).map (valAt es) = es.map (·.2.2) := by
    apply List.ext_getElem (by simp)
    intro i h1 h2
    have hi : i < es.length := by simpa using h2
    rw [List.getElem_map, List.getElem_map, List.getElem_range, valAt, List.getD_eq_getElem?_getD, List.getElem?_eq_getElem hi]
    rfl
  rw [this]
end Go.Proofs.Ytanpdkllnmeenaa.M

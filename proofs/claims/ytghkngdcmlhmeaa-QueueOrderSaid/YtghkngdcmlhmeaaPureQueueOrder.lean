/- Taken one by one, letters come in order, each once; what is due by and by is all, in order; what is put comes. -/
import Derived.Test.YtghkngdcmlhmeaaQSpec
import Derived.Test.YtghkngdcmlhmeaaPQux15
set_option linter.unusedVariables false
set_option linter.unusedSimpArgs false
set_option linter.unusedSectionVars false
namespace Go.Proofs.Ytghkngdcmlhmeaa.Pure
open Go Go.RowKit Go.Proofs.Ytghkngdcmlhmeaa.PQu Go.Proofs.YtghkngdcmlhmeaaW.PrintWords Go.Proofs.YtghkngdcmlhmeaaW.PrintLast Go.Proofs.YtghkngdcmlhmeaaW.PrintMore Go.Proofs.Ytghkngdcmlhmeaa.Qp Go.Proofs.Ytghkngdcmlhmeaa.Spec Go.Proofs.Ytghkngdcmlhmeaa.Qs
theorem evAwake20 : Ev (fun k => affidavitlaw20_awake.f k) true := Ev.of (fun k => affidavitlaw20_awake.mono k) (k := 8) (by decide +kernel)
section
variable {q : List S25} (hq : bndB q = true) (hs : Sorted q) (hlen : q.length < 1000)
include hq hs hlen
theorem drop_srt (i : Nat) : Hp.srt ltL (q.drop i) = q.drop i := srt_id (fun x hx => (bndB_iff.mp hq).2 x (List.mem_of_mem_drop hx)) (hs.sublist (List.drop_sublist i q))
theorem drop_bnd (i : Nat) : bndB (q.drop i) = true := bndB_sub hq (by simp) (fun x hx => List.mem_of_mem_drop hx)
theorem order_l0 {l : List S25} (hl : l.length + 1 = q.length) (l2 : List Int) (x : S25)
    (hend : Ev (fun k => affidavitlaw20_QueueOrder.j2 k l2 q q false x.f0 x.f1 x.f2 x.f3) true) (d : Nat) :
    ∀ i : Nat, i + d = q.length → Ev (fun k => affidavitlaw20_QueueOrder.l0 k l l2 q q (q.take i) (q.drop i) x.f0 x.f1 x.f2 x.f3) true := by
  induction d with
  | zero =>
    intro i hi
    rw [List.drop_eq_nil_of_le (by omega), List.take_of_length_le (by omega)]
    refine Ev.step (fun k => affidavitlaw20_QueueOrder.l0.eq_2 ..) ?_
    have h0 : bndB ([] : List S25) = true := by decide
    rw [first_spec' h0]
    refine Ev.bind (Ev.now _) (Ev.iteF (by simp [firstT, Hp.srt]) (Ev.iteT ?_ (Ev.bind (evSame q (by omega)) ?_)))
    · rw [w64_in (by omega) (by omega)]; omega
    · exact hend
  | succ d ih =>
    intro i hi
    have hlt : i < q.length := by omega
    refine Ev.step (fun k => affidavitlaw20_QueueOrder.l0.eq_2 ..) ?_
    rw [first_spec' (drop_bnd hq hs hlen i), drop_srt hq hs hlen i]
    have hd : q.drop i = q[i] :: q.drop (i + 1) := List.drop_eq_getElem_cons hlt
    have hft : firstT (q.drop i) = (q[i].f0, q[i].f1, q[i].f2, q[i].f3, q.drop (i + 1), true) := by rw [hd]; rfl
    rw [hft]
    refine Ev.bind (Ev.now _) (Ev.iteT rfl ?_)
    have hr : ((q.drop (i + 1)).length : Int) = wrap64 (((q.drop i).length : Int) - 1) := by
      rw [w64_in (by simp; omega) (by simp; omega)]; simp; omega
    have htk : q.take i ++ [(⟨q[i].f0, q[i].f1, q[i].f2, q[i].f3⟩ : S25)] = q.take (i + 1) := by
      rw [List.take_succ_eq_append_getElem hlt]
    have hbl : (q.take i).length < 2932031007402 := by simp; omega
    by_cases h0 : ((q.take i).length : Int) > 0
    · refine Ev.iteT h0 ?_
      have hil : (q.take i).length = i := by simp; omega
      have hi0 : 0 < i := by omega
      have ew : wrap64 (((q.take i).length : Int) - 1) = ((i - 1 : Nat) : Int) := by rw [hil, w64_in (by omega) (by omega)]; omega
      rw [ew, rdT]
      have hg : (q.take i).getD (i - 1) z25 = q[i - 1] := by
        rw [Hp.getD_lt _ _ _ (by omega), List.getElem_take]
      rw [hg]
      have hless : ltL q[i] q[i - 1] = false := List.pairwise_iff_getElem.mp hs (i - 1) i (by omega) hlt (by omega)
      refine Ev.iteT (by omega) (Ev.iteT (by omega) (Ev.bind (evLess q[i] q[i - 1]) ?_))
      rw [hless]
      refine Ev.iteF (by simp) (Ev.iteT hr (Ev.iteT hbl ?_))
      rw [htk]
      exact ih (i + 1) (by omega)
    · refine Ev.iteF h0 (Ev.iteT hr (Ev.iteT hbl ?_))
      rw [htk]
      exact ih (i + 1) (by omega)
theorem order_l1 (l2 : List Int) (x : S25) (hend : Ev (fun k => affidavitlaw20_QueueOrder.l2 k l2 q true ([] : List S25) 0 q 0) true) (d : Nat) :
    ∀ (i : Nat) (b : Bool), i + d = q.length → (b || (q.drop i).any (fun y => eqL y x)) = true → Ev (fun k => affidavitlaw20_QueueOrder.l1 k l2 q q b (i : Int) x.f0 x.f1 x.f2 x.f3) true := by
  induction d with
  | zero =>
    intro i b hi hb
    rw [List.drop_eq_nil_of_le (by omega), List.any_nil, Bool.or_false] at hb
    subst hb
    exact Ev.step (fun k => affidavitlaw20_QueueOrder.l1.eq_2 ..) (Ev.iteF (by omega) hend)
  | succ d ih =>
    intro i b hi hb
    have hlt : i < q.length := by omega
    rw [List.drop_eq_getElem_cons hlt, List.any_cons] at hb
    refine Ev.step (fun k => affidavitlaw20_QueueOrder.l1.eq_2 ..) (Ev.iteT (by omega) ?_)
    rw [up1 i (by omega)]
    cases b with
    | true => exact Ev.iteT rfl (ih (i + 1) true (by omega) rfl)
    | false =>
      refine Ev.iteF (by simp) (Ev.iteT (by omega) ?_)
      rw [rdT, Hp.getD_lt _ _ _ hlt, one_spec]
      exact Ev.bind (Ev.now _) (ih (i + 1) _ (by omega) (by simpa using hb))
theorem order_l2 (l2 : List Int) (h2 : ∀ y ∈ l2, 0 ≤ y ∧ y ≤ 255) (hl2 : l2.length ≤ 60) (d : Nat) :
    ∀ (i : Nat) (now : Int) (j : Nat), i + d = l2.length → 0 ≤ now → now ≤ 255 * i → Ev (fun k => affidavitlaw20_QueueOrder.l2 k l2 q true (q.take j) now (q.drop j) (i : Int)) true := by
  induction d with
  | zero =>
    intro i now j hi h0 h1
    refine Ev.step (fun k => affidavitlaw20_QueueOrder.l2.eq_2 ..) (Ev.iteF (by omega) (Ev.iteT rfl (Ev.iteT (by simp; omega) ?_)))
    rw [List.take_append_drop]
    exact Ev.bind (evSame q (by omega)) (Ev.now _)
  | succ d ih =>
    intro i now j hi h0 h1
    have hlt : i < l2.length := by omega
    have hb := h2 l2[i] (List.getElem_mem hlt)
    have er : rd l2 (i : Int) = l2[i] := by
      unfold rd
      rw [Int.toNat_natCast, List.getD_eq_getElem?_getD, List.getElem?_eq_getElem hlt]; rfl
    refine Ev.step (fun k => affidavitlaw20_QueueOrder.l2.eq_2 ..) (Ev.iteT (by omega) (Ev.iteT (by omega) ?_))
    have e1 : wrap64 (now + wrap64 l2[i]) = now + l2[i] := by rw [w64_in (n := l2[i]) (by omega) (by omega), w64_in (by omega) (by omega)]
    rw [er, e1]
    generalize hn : now + l2[i] = t
    rw [due_spec (drop_bnd hq hs hlen j), drop_srt hq hs hlen j]
    refine Ev.bind (Ev.now _) ?_
    have hsj : Sorted (q.drop j) := hs.sublist (List.drop_sublist j q)
    have hp := due_parts t hsj
    obtain ⟨D, hD⟩ : ∃ D, D = (q.drop j).filter (fun x => decide (x.f0 ≤ t)) := ⟨_, rfl⟩
    obtain ⟨R, hR⟩ : ∃ R, R = (q.drop j).filter (fun x => !decide (x.f0 ≤ t)) := ⟨_, rfl⟩
    have hDm : ∀ x ∈ D, x.f0 ≤ t := fun x hx => by rw [hD] at hx; simpa using (List.mem_filter.mp hx).2
    have hRm : ∀ x ∈ R, ¬ x.f0 ≤ t := fun x hx => by rw [hR] at hx; simpa using (List.mem_filter.mp hx).2
    rw [← hD, ← hR] at hp ⊢
    have hDl : D.length + R.length = (q.drop j).length := by rw [← hp, List.length_append]
    have hDl' : D.length + R.length ≤ q.length := by rw [hDl]; simp
    have ht : q.take j ++ D = q.take (j + D.length) := by
      have : q.take (j + D.length) = q.take j ++ (q.drop j).take D.length := by rw [List.take_add]
      rw [this, ← hp, List.take_left]
    have hr : R = q.drop (j + D.length) := by
      rw [← List.drop_drop, ← hp, List.drop_left]
    have tail : Ev (fun k => affidavitlaw20_QueueOrder.l2 k l2 q true (q.take j ++ D) t R (wrap64 ((i : Int) + 1))) true := by
      rw [up1 i (by omega), ht, hr]
      exact ih (i + 1) t (j + D.length) (by omega) (by omega) (by omega)
    have hbl : (q.take j).length + D.length < 2932031007402 := by simp; omega
    have key : ∀ e m : Nat, m + e = D.length → Ev (fun k => affidavitlaw20_QueueOrder.l3 k l2 q true (q.take j) t (i : Int) D R (m : Int)) true := by
      intro e
      induction e with
      | zero =>
        intro m hm
        refine Ev.step (fun k => affidavitlaw20_QueueOrder.l3.eq_2 ..) (Ev.iteF (by omega) ?_)
        rw [next_spec (by rw [hr]; exact drop_bnd hq hs hlen _), show Hp.srt ltL R = R by rw [hr]; exact drop_srt hq hs hlen _]
        refine Ev.bind (Ev.now _) ?_
        cases hRR : R with
        | nil =>
          rw [hRR] at tail
          exact Ev.iteF (by simp [firstT]) (Ev.iteT hbl tail)
        | cons y ys =>
          have hy := hRm y (by rw [hRR]; exact List.mem_cons_self)
          rw [hRR] at tail
          exact Ev.iteT rfl (Ev.iteF hy (Ev.iteT hbl tail))
      | succ e ihe =>
        intro m hm
        have hml : m < D.length := by omega
        refine Ev.step (fun k => affidavitlaw20_QueueOrder.l3.eq_2 ..) (Ev.iteT (by omega) (Ev.iteT (by omega) (Ev.iteF ?_ ?_)))
        · rw [rdT, Hp.getD_lt _ _ _ hml]
          have := hDm D[m] (List.getElem_mem hml)
          omega
        · rw [up1 m (by omega)]
          exact ihe (m + 1) (by omega)
    exact key D.length 0 (by omega)
end
theorem QueueOrder : affidavitlaw20_QueueOrder.Pure := by
  intro l0 a0 a1 a2 l3 l2 w0 w1 w2
  have hgx : good (⟨a0, a1, a2, l3⟩ : S25) := good_of w1.2.2.2
  have hgl : ∀ y ∈ l0, good y := fun y hy => good_of (w0.2.2 y hy).2.2.2
  refine Ev.rounds (g := fun k => affidavitlaw20_QueueOrder.f k l0 a0 a1 a2 l3 l2) ?_
  refine Ev.congr (f := fun k => (affidavitlaw20_awake.f k).bind _) (fun k => rfl) (Ev.bind evAwake20 (Ev.iteT rfl (Ev.bind (evShort l0) ?_)))
  have triv : Ev (fun k => affidavitlaw20_QueueOrder.j0 k l0 l2 true a0 a1 a2 l3) true := Ev.step (f := fun _ => some true) (fun k => rfl) (Ev.now _)
  cases hsh : shortB l0 with
  | false => exact Ev.iteF (by simp) triv
  | true =>
    refine Ev.iteT rfl ?_
    by_cases c1 : (l2.length : Int) > 60
    · rw [decide_eq_true c1]; exact triv
    · rw [decide_eq_false c1]
      simp only [shortB, Bool.and_eq_true, decide_eq_true_eq] at hsh
      have hb : bndB ((⟨a0, a1, a2, l3⟩ : S25) :: l0) = true := bndB_iff.mpr ⟨by simp; omega, fun y hy => by
        rcases List.mem_cons.mp hy with rfl | hy
        · exact hgx
        · exact hgl y hy⟩
      have hp := Hp.srt_perm (lt := ltL) ((⟨a0, a1, a2, l3⟩ : S25) :: l0)
      have hs := Hp.srt_sorted lt_asym lt_trans' ((⟨a0, a1, a2, l3⟩ : S25) :: l0)
      have hput := put_spec hb
      generalize hq : Hp.srt ltL ((⟨a0, a1, a2, l3⟩ : S25) :: l0) = q at hp hs hput
      have hbq := bndB_perm hb hp
      have hlq : l0.length + 1 = q.length := by rw [hp.length_eq]; rfl
      have hl2 : l2.length ≤ 60 := by omega
      refine Ev.step (fun k => affidavitlaw20_QueueOrder.j0.eq_2 ..) (Ev.iteF (by simp) ?_)
      rw [hput]
      refine Ev.bind (Ev.now _) ?_
      rw [sorted_spec hbq, srt_id (bndB_iff.mp hbq).2 hs]
      refine Ev.bind (Ev.now _) ?_
      have h2 := order_l2 hbq hs (by omega) l2 (fun y hy => wf8 (w2.2.2 y hy)) hl2 l2.length 0 0 0 (by omega) (by omega) (by omega)
      have hmem : (⟨a0, a1, a2, l3⟩ : S25) ∈ q := hp.mem_iff.mpr List.mem_cons_self
      have h1 := order_l1 hbq hs (by omega) l2 (⟨a0, a1, a2, l3⟩ : S25) h2 q.length 0 false (by omega) (by
        rw [List.drop_zero, Bool.false_or, List.any_eq_true]
        exact ⟨_, hmem, eqL_refl _⟩)
      exact order_l0 hbq hs (by omega) hlq l2 (⟨a0, a1, a2, l3⟩ : S25) (Ev.step (fun k => affidavitlaw20_QueueOrder.j2.eq_2 ..) (Ev.iteF (by simp) h1)) q.length 0 (by omega)
end Go.Proofs.Ytghkngdcmlhmeaa.Pure

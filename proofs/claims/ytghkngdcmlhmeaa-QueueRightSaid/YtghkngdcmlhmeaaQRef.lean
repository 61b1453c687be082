/- The reference of chapter 20: letters put in order, what is due, told of rows. No memory. -/
import Derived.Test.YtghkngdcmlhmeaaQSpec
import Derived.Test.YtghkngdcmlhmeaaPQux13
set_option linter.unusedVariables false
set_option linter.unusedSimpArgs false
set_option linter.unusedSectionVars false
namespace Go.Proofs.Ytghkngdcmlhmeaa.Qs
open Go Go.RowKit Go.Proofs.Ytghkngdcmlhmeaa.PQu Go.Proofs.YtghkngdcmlhmeaaW.PrintWords Go.Proofs.YtghkngdcmlhmeaaW.PrintLast Go.Proofs.YtghkngdcmlhmeaaW.PrintMore Go.Proofs.Ytghkngdcmlhmeaa.Qp Go.Proofs.Ytghkngdcmlhmeaa.Spec
theorem bytes_less : ∀ a b : List UInt8, Op.bytesLess a b = decide (Lib.compareBytes a b < 0)
  | [], [] => rfl
  | [], _ :: _ => rfl
  | _ :: _, [] => rfl
  | a :: xs, b :: ys => by
    have ih := bytes_less xs ys
    unfold Op.bytesLess Lib.compareBytes
    rw [ih]
    by_cases h1 : a < b
    · simp [h1]
    · by_cases h2 : b < a
      · have h3 : ¬ a = b := fun e => h1 (by rw [e] at h2 ⊢; exact h2)
        simp [h1, h2, h3]
      · have h3 : a = b := by
          apply UInt8.toNat_inj.mp
          simp only [UInt8.lt_iff_toNat_lt] at h1 h2
          omega
        simp [h3]
theorem ltL_def (x y : S25) : ltL x y = if x.f0 = y.f0 then (if x.f1 = y.f1 then (if x.f2 = y.f2 then (if (x.f3.length : Int) = (y.f3.length : Int) then decide (Bc.cmpB x.f3 y.f3 < 0) else decide ((x.f3.length : Int) < (y.f3.length : Int))) else decide (x.f2 < y.f2)) else decide (x.f1 < y.f1)) else decide (x.f0 < y.f0) := by
  have key : ∀ (a b : Int) (r : List Int), (decide (Qo.firstOf (Qo.ci a b :: r) < 0)) = if a = b then decide (Qo.firstOf r < 0) else decide (a < b) := by
    intro a b r
    unfold Qo.firstOf Qo.ci
    by_cases h : a < b
    · rw [if_pos h, if_neg (by omega), if_neg (by omega)]; simp [h]
    · rw [if_neg h]
      by_cases h2 : a > b
      · rw [if_pos h2, if_neg (by omega), if_neg (by omega)]; simp [h]
      · rw [if_neg h2, if_pos rfl, if_pos (by omega)]
        cases r <;> rfl
  rw [ltL_eq]
  unfold cm Qo.ord
  rw [key, key, key, key]
  have hl : ∀ c : Int, Qo.firstOf [c] = c := fun c => by
    unfold Qo.firstOf
    by_cases h : c = 0
    · rw [if_pos h, h]; rfl
    · rw [if_neg h]
  rw [hl]
theorem refLess_spec (x y : S25) : affidavitref20_Less.f x.f0 x.f1 x.f2 x.f3 y.f0 y.f1 y.f2 y.f3 = some (ltL x y) := by
  rw [ltL_def]
  unfold affidavitref20_Less.f
  rw [Lib.strOfNums_toList, Lib.strOfNums_toList, bytes_less]
  unfold Bc.cmpB
  repeat' split
  all_goals rfl
theorem insr_at (x : S25) : ∀ (l : List S25) (j : Nat), j ≤ l.length → (∀ q (hq : q < l.length), q < j → ltL x l[q] = false) → (∀ hq : j < l.length, ltL x l[j] = true) → Hp.insr ltL x l = l.take j ++ [x] ++ l.drop j
  | [], j, hj, _, _ => by
    have : j = 0 := by simpa using hj
    subst this; rfl
  | y :: l, 0, _, _, h => by
    have := h (by simp)
    rw [Hp.insr, if_pos (by simpa using this)]; rfl
  | y :: l, j + 1, hj, h1, h2 => by
    have h0 := h1 0 (by simp) (by omega)
    rw [Hp.insr, if_neg (by simpa using h0), insr_at x l j (by simpa using hj) (fun q hq hqj => h1 (q + 1) (by simpa using hq) (by omega)) (fun hq => h2 (by simpa using hq))]
    simp
theorem evRSorted (l : List S25) (hl : l.length < 1000000) : Ev (fun k => affidavitref20_Sorted.f k l) (Hp.srt ltL l) := by
  show Ev (fun k => affidavitref20_Sorted.l0 k l [] 0) _
  have key : ∀ (d i : Nat) (out : List S25), i + d = l.length → out.length = i → Ev (fun k => affidavitref20_Sorted.l0 k l out (i : Int)) ((l.drop i).foldl (fun acc x => Hp.insr ltL x acc) out) := by
    intro d
    induction d with
    | zero =>
      intro i out hi ho
      rw [List.drop_eq_nil_of_le (by omega)]
      exact Ev.step (fun k => affidavitref20_Sorted.l0.eq_2 ..) (Ev.iteF (by omega) (Ev.now _))
    | succ d ih =>
      intro i out hi ho
      have hlt : i < l.length := by omega
      rw [List.drop_eq_getElem_cons hlt, List.foldl_cons]
      refine Ev.step (fun k => affidavitref20_Sorted.l0.eq_2 ..) (Ev.iteT (by omega) ?_)
      have hrd : rd_T25 l (i : Int) = l[i] := by rw [rdT, Hp.getD_lt _ _ _ hlt]
      have inner : ∀ (e j : Nat), j + e = out.length → (∀ q (hq : q < out.length), q < j → ltL l[i] out[q] = false) → Ev (fun k => affidavitref20_Sorted.l1 k l out (i : Int) (j : Int)) ((l.drop (i + 1)).foldl (fun acc x => Hp.insr ltL x acc) (Hp.insr ltL l[i] out)) := by
        intro e
        have fin : ∀ j : Nat, j ≤ out.length → (∀ q (hq : q < out.length), q < j → ltL l[i] out[q] = false) → (∀ hq : j < out.length, ltL l[i] out[j] = true) → Ev (fun k => affidavitref20_Sorted.l0 k l (out.take j ++ [l[i]] ++ out.drop j) (wrap64 ((i : Int) + 1))) ((l.drop (i + 1)).foldl (fun acc x => Hp.insr ltL x acc) (Hp.insr ltL l[i] out)) := by
          intro j hj h1 h2
          rw [← insr_at l[i] out j hj h1 h2, up1 i (by omega)]
          exact ih (i + 1) _ (by omega) (by rw [(Hp.insr_perm _ _).length_eq, List.length_cons, ho])
        induction e with
        | zero =>
          intro j hj h1
          refine Ev.step (fun k => affidavitref20_Sorted.l1.eq_2 ..) (Ev.iteF (by omega) ?_)
          have hf := fin j (by omega) h1 (fun hq => absurd hq (by omega))
          rw [hrd, Int.toNat_natCast]
          exact Ev.bind (Ev.now _) (Ev.iteT (by omega) (Ev.iteT (by omega) (Ev.bind (Ev.now _) (Ev.iteT (by simp; omega) (Ev.bind (Ev.now _) (Ev.iteT (by omega) (Ev.iteT (by omega) (Ev.iteT (by simp; omega) (Ev.bind (Ev.now _) (Ev.bind (Ev.now _) (Ev.iteT (by simp; omega) hf)))))))))))
        | succ e ihe =>
          intro j hj h1
          have hjl : j < out.length := by omega
          refine Ev.step (fun k => affidavitref20_Sorted.l1.eq_2 ..) (Ev.iteT (by omega) (Ev.iteT (by omega) (Ev.iteT (by omega) (Ev.iteT (by omega) ?_))))
          rw [hrd, rdT, Hp.getD_lt _ _ _ hjl, refLess_spec]
          refine Ev.bind (Ev.now _) ?_
          cases ht : ltL l[i] out[j] with
          | true =>
            have hf := fin j (by omega) h1 (fun _ => ht)
            rw [Int.toNat_natCast]
            exact Ev.iteT rfl (Ev.bind (Ev.now _) (Ev.iteT (by omega) (Ev.bind (Ev.now _) (Ev.iteT (by simp; omega) (Ev.bind (Ev.now _) (Ev.iteT (by simp; omega) (Ev.bind (Ev.now _) (Ev.bind (Ev.now _) (Ev.iteT (by simp; omega) hf)))))))))
          | false =>
            refine Ev.iteF (by simp) ?_
            rw [up1 j (by omega)]
            refine ihe (j + 1) (by omega) (fun q hq hqj => ?_)
            by_cases hqe : q = j
            · subst hqe; exact ht
            · exact h1 q hq (by omega)
      exact inner out.length 0 (by omega) (fun q _ hq => absurd hq (by omega))
  exact key l.length 0 [] (by omega) rfl
theorem evRDue (l : List S25) (now : Int) (hl : l.length < 1000000) : Ev (fun k => affidavitref20_Due.f k l now) ((Hp.srt ltL l).filter (fun x => decide (x.f0 ≤ now)), (Hp.srt ltL l).filter (fun x => !decide (x.f0 ≤ now))) := by
  refine Ev.bind (evRSorted l hl) ?_
  have hsl : (Hp.srt ltL l).length < 1000000 := by rw [(Hp.srt_perm _).length_eq]; exact hl
  generalize Hp.srt ltL l = s at hsl ⊢
  have key : ∀ (d i : Nat) (D R : List S25), i + d = s.length → D.length ≤ i → R.length ≤ i → Ev (fun k => affidavitref20_Due.l0 k now D R s (i : Int)) (D ++ (s.drop i).filter (fun x => decide (x.f0 ≤ now)), R ++ (s.drop i).filter (fun x => !decide (x.f0 ≤ now))) := by
    intro d
    induction d with
    | zero =>
      intro i D R hi hD hR
      rw [List.drop_eq_nil_of_le (by omega)]
      refine Ev.step (fun k => affidavitref20_Due.l0.eq_2 ..) (Ev.iteF (by omega) ?_)
      simp only [List.filter_nil, List.append_nil]
      exact Ev.now _
    | succ d ih =>
      intro i D R hi hD hR
      have hlt : i < s.length := by omega
      rw [List.drop_eq_getElem_cons hlt]
      refine Ev.step (fun k => affidavitref20_Due.l0.eq_2 ..) (Ev.iteT (by omega) (Ev.iteT (by omega) ?_))
      rw [rdT, Hp.getD_lt _ _ _ hlt, up1 i (by omega)]
      by_cases h : s[i].f0 ≤ now
      · rw [List.filter_cons_of_pos (by simpa using h), List.filter_cons_of_neg (by simpa using h)]
        have h2 := ih (i + 1) (D ++ [s[i]]) R (by omega) (by simp; omega) (by omega)
        rw [List.append_assoc, List.singleton_append] at h2
        exact Ev.iteT h (Ev.iteT (by omega) h2)
      · rw [List.filter_cons_of_neg (by simpa using h), List.filter_cons_of_pos (by simpa using h)]
        have h2 := ih (i + 1) D (R ++ [s[i]]) (by omega) (by omega) (by simp; omega)
        rw [List.append_assoc, List.singleton_append] at h2
        exact Ev.iteF h (Ev.iteT (by omega) h2)
  exact key s.length 0 [] [] (by omega) (by simp) (by simp)
end Go.Proofs.Ytghkngdcmlhmeaa.Qs

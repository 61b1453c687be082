/- The reference's proofs: affidavitref02.Proof, First, Shows, Short; and that they say what the program says. -/
import Derived.Test.YtanpdkllnmeenaaAmShows
namespace Go.Proofs.Ytanpdkllnmeenaa.M
set_option linter.unusedVariables false
set_option maxRecDepth 100000
open Go Go.RowKit Go.Proofs Go.Proofs.Ytanpdkllnmeenaa.Am

theorem known_l0 (p : Int) {k : Nat} {R : Type} (x0 : Bool → Option R) (x1 : Int → Option R) {l : List (Int × Int × List (Int × Int))} (hl : l.length < 281474976710656) (d : Nat) : ∀ (m i : Nat), i + d = l.length → d < m →
    affidavitref02_known.L0 k x0 x1 m l p i = bif (l.drop i).any (fun x => x.1 == p) then x0 true else x1 p := by
  induction d with
  | zero =>
    intro m i hi hm
    obtain ⟨m, rfl⟩ : ∃ j, m = j + 1 := ⟨m - 1, by omega⟩
    simp only [affidavitref02_known.L0, affidavitref02_known.B0]
    rw [dF (by omega), List.drop_of_length_le (by omega), List.any_nil, cond_false]
  | succ d ih =>
    intro m i hi hm
    obtain ⟨m, rfl⟩ : ∃ j, m = j + 1 := ⟨m - 1, by omega⟩
    simp only [affidavitref02_known.L0, affidavitref02_known.B0]
    rw [Int.toNat_natCast, drop_at (i := i) (by omega) (0, 0, []), List.any_cons, dT (by omega), aT (by omega)]
    cases hp : ((l.getD i (0, 0, [])).1 == p) with
    | true => rw [cond_true, Bool.true_or, cond_true]
    | false => rw [cond_false, Bool.false_or, ix (by omega), ih m (i + 1) (by omega) (by omega)]

theorem known_spec (p : Int) {l : List (Int × Int × List (Int × Int))} (hl : l.length < 281474976710656) {k : Nat} (hk : 2 + l.length ≤ k) {R : Type} (ret : Bool → Option R) :
    affidavitref02_known.f k l p ret = ret (l.any (fun x => x.1 == p) || (p == 2)) := by
  obtain ⟨k, rfl⟩ : ∃ m, k = m + 1 := ⟨k - 1, by omega⟩
  simp only [affidavitref02_known.f]
  have := known_l0 p (k := k) (fun t4 => ret t4) (fun p2 => ret (p2 == 2)) hl l.length k 0 (by omega) (by omega)
  rw [show ((0 : Nat) : Int) = 0 from rfl, List.drop_zero] at this
  rw [this]
  cases l.any (fun x => x.1 == p)
  · rw [cond_false, Bool.false_or]
  · rw [cond_true, Bool.true_or]

theorem ref_l2 {k : Nat} {R : Type} (x0 : Bool → Option R) (x1 : List (Int × Int × List (Int × Int)) → Int → Int → Int → Int → Int → List (Int × Int) → Option R) (l : List (Int × Int × List (Int × Int))) (i k_ x3 x4 : Int) (x5 : List (Int × Int)) {q T : Int} (hq : 2 ≤ q) (hT : T < 9223372036854775808) (j : Nat) : ∀ (m : Nat) (t n : Int) (d : Nat), j + 2 ≤ m → 0 ≤ t → t + d = T → 1 ≤ n → n < 2 ^ j → n < 18446744073709551616 →
    affidavitref02_Proof.L2 k x0 x1 m l i n k_ t x3 x4 x5 q T = (dv q d n).elim (x0 false) (fun v => x1 l i v k_ x3 x4 x5) := by
  induction j with
  | zero => intro m t n d hm hi hd h1 h2 _; simp at h2; omega
  | succ j ih =>
    intro m t n d hm hi hd h1 h2 h3
    obtain ⟨m, rfl⟩ : ∃ j, m = j + 1 := ⟨m - 1, by omega⟩
    simp only [affidavitref02_Proof.L2, affidavitref02_Proof.B2]
    cases d with
    | zero => rw [dF (by omega)]; rfl
    | succ d =>
      rw [dT (by omega), nT (by omega), Int.tmod_eq_emod_of_nonneg (by omega)]
      simp only [dv]
      by_cases hd' : n % q = 0
      · obtain ⟨a1, a2, _, a3⟩ := div_half hq h1 h2 hd'
        rw [nF hd', nT (by omega), if_pos hd', Int.tdiv_eq_ediv_of_nonneg (by omega), wu_in (by omega) (by omega), w64_in (by omega) (by omega)]
        exact ih m _ _ d (by omega) (by omega) (by omega) a1 (by simpa using a2) (by omega)
      · rw [nT hd', if_neg hd']; rfl

theorem ref_l0 {k : Nat} (hk : 66 ≤ k) {R : Type} (x0 : Bool → Option R) (x1 : List (Int × Int × List (Int × Int)) → Int → Int → Int → Int → List (Int × Int) → Option R) (P : List (Int × Int × List (Int × Int))) (J N a : Int) {l : List (Int × Int)} (hl : l.length < 281474976710656) (ht : ∀ y ∈ l, y.2 < 9223372036854775808) (d : Nat) : ∀ (m i : Nat) (n : Int), i + d = l.length → d < m → 1 ≤ n → n < 9223372036854775808 →
    affidavitref02_Proof.L0 k x0 x1 m P J n i N a l = bif inc (l.drop (i - 1)) then (pl (l.drop i) n).elim (x0 false) (fun v => x1 P J v N a l) else x0 false := by
  induction d with
  | zero =>
    intro m i n hi hm h1 h2
    obtain ⟨m, rfl⟩ : ∃ j, m = j + 1 := ⟨m - 1, by omega⟩
    simp only [affidavitref02_Proof.L0, affidavitref02_Proof.B0]
    have e : inc (l.drop (i - 1)) = true := by
      cases l with
      | nil => rw [List.drop_nil]; rfl
      | cons b r =>
        rw [drop_at (i := i - 1) (by simp at hi ⊢; omega) (0, 0), List.drop_of_length_le (by simp at hi ⊢; omega)]; rfl
    rw [dF (by omega), e, cond_true, List.drop_of_length_le (by omega)]
    rfl
  | succ d ih =>
    intro m i n hi hm h1 h2
    obtain ⟨m, rfl⟩ : ∃ j, m = j + 1 := ⟨m - 1, by omega⟩
    have hmem := ht _ (getD_mem (l := l) (i := i) (by omega) (0, 0))
    have ih' := fun v h => ih m (i + 1) v (by omega) (by omega) h
    have hdr := drop_at (l := l) (i := i) (by omega) (0, 0)
    rw [Nat.add_sub_cancel] at ih'
    simp only [affidavitref02_Proof.L0, affidavitref02_Proof.B0]
    rw [dT (by omega), aT (by omega), Int.toNat_natCast]
    have hpl : pl (l.drop i) n = bif decide (2 ≤ (l.getD i (0, 0)).1 ∧ 1 ≤ (l.getD i (0, 0)).2) then (dv (l.getD i (0, 0)).1 (l.getD i (0, 0)).2.toNat n).bind (pl (l.drop (i + 1))) else none := by rw [hdr, pl]
    by_cases c1 : (l.getD i (0, 0)).1 < 2
    · rw [dT c1, hpl, dF (p := 2 ≤ _ ∧ 1 ≤ _) (by omega)]
      cases inc (l.drop (i - 1))
      · rw [cond_false]
      · rw [cond_true]; rfl
    · by_cases c2 : (l.getD i (0, 0)).2 < 1
      · rw [dF c1, dT c2, hpl, dF (p := 2 ≤ _ ∧ 1 ≤ _) (by omega)]
        cases inc (l.drop (i - 1))
        · rw [cond_false]
        · rw [cond_true]; rfl
      · rw [dF c1, dF c2]
        have hgo : affidavitref02_Proof.L2 k (fun t4 => x0 t4) (fun l3 i3 n2 k_2 x6 x7 x8 => affidavitref02_Proof.L0 k x0 x1 m l3 i3 n2 (IntKind.wrap .i64 (k_2 + 1)) x6 x7 x8) k P J n i 0 N a l (l.getD i (0, 0)).1 (l.getD i (0, 0)).2 = bif inc (l.drop i) then (pl (l.drop i) n).elim (x0 false) (fun v => x1 P J v N a l) else x0 false := by
          rw [ref_l2 _ _ P J i N a l (by omega) hmem 63 k 0 n (l.getD i (0, 0)).2.toNat (by omega) (by omega) (by omega) h1 (by simpa using h2) (by omega), hpl, dT (p := 2 ≤ _ ∧ 1 ≤ _) (by omega)]
          cases hdv : dv (l.getD i (0, 0)).1 (l.getD i (0, 0)).2.toNat n with
          | none =>
            cases inc (l.drop i)
            · rw [cond_false]; rfl
            · rw [cond_true]; rfl
          | some v =>
            have := dv_pos (by omega) _ _ _ h1 hdv
            rw [Option.bind_some]
            show affidavitref02_Proof.L0 k x0 x1 m P J v (IntKind.wrap .i64 ((i : Int) + 1)) N a l = _
            rw [ix (by omega), ih' v (by omega) (by omega)]
        by_cases c3 : i = 0
        · subst c3
          rw [dF (by omega)]
          exact hgo
        · rw [dT (by omega), ixm (by omega) (by omega), aT (by omega), Int.toNat_natCast]
          have hinc : inc (l.drop (i - 1)) = (decide ((l.getD (i - 1) (0, 0)).1 < (l.getD i (0, 0)).1) && inc (l.drop i)) := by
            rw [drop_at (i := i - 1) (by omega) (0, 0), show (i - 1) + 1 = i by omega, hdr, inc]
          rw [hinc]
          by_cases c4 : (l.getD i (0, 0)).1 ≤ (l.getD (i - 1) (0, 0)).1
          · rw [dT c4, decide_eq_false (p := _ < _) (by omega), Bool.false_and, cond_false]
          · rw [dF c4, decide_eq_true (p := _ < _) (by omega), Bool.true_and]
            exact hgo

/-- What a proof shows, by what is known. -/
def showsK (kn : Int → Bool) (x : Int × Int × List (Int × Int)) : Bool := formB x && ((pw x.1 x.2.1 (x.1 - 1) == 1) && x.2.2.all (fun y => kn y.1 && !(pw x.1 x.2.1 ((x.1 - 1) / y.1) == 1)))
theorem showsB_K (known : List (Unit × Int × Bool)) (x : Int × Int × List (Int × Int)) : showsB known x = showsK (mget false known) x := by
  unfold showsB showsK
  cases h : formB x with
  | false => rw [Bool.false_and, Bool.false_and]
  | true =>
    obtain ⟨⟨a1, a2, a3, a4, a5, a6⟩, _, hp⟩ := form_facts h
    have e : ∀ n, oneB x n = (pw x.1 x.2.1 n == 1) := by
      intro n; unfold oneB; rw [decide_eq_true ⟨a4, by omega, a2⟩, Bool.true_and]
    rw [Bool.true_and, Bool.true_and, e]
    congr 2
    funext y
    unfold partB
    rw [e]

theorem ref_l4 {k : Nat} (hk : 150 ≤ k) {R : Type} (x0 : Bool → Option R) (x1 : Unit → Option R) {P : List (Int × Int × List (Int × Int))} (hP : P.length + 2 ≤ k) (hP' : P.length < 281474976710656) {J : Nat} (hJ : J ≤ P.length) {N a : Int} (hN : 2 ≤ N) (hN' : N < 9223372036854775808) (ha : 0 ≤ a) (ha' : a < N) {l : List (Int × Int)} (hl : l.length < 281474976710656) (hy : ∀ y ∈ l, 2 ≤ y.1) (d : Nat) : ∀ (m i : Nat), i + d = l.length → d < m →
    affidavitref02_Proof.L4 k x0 x1 m P J i N a l = bif (l.drop i).all (fun y => ((P.take J).any (fun x => x.1 == y.1) || (y.1 == 2)) && !(pw N a ((N - 1) / y.1) == 1)) then x1 () else x0 false := by
  induction d with
  | zero =>
    intro m i hi hm
    obtain ⟨m, rfl⟩ : ∃ j, m = j + 1 := ⟨m - 1, by omega⟩
    simp only [affidavitref02_Proof.L4, affidavitref02_Proof.B4]
    rw [dF (by omega), List.drop_of_length_le (by omega), List.all_nil, cond_true]
  | succ d ih =>
    intro m i hi hm
    obtain ⟨m, rfl⟩ : ∃ j, m = j + 1 := ⟨m - 1, by omega⟩
    have hmem := hy _ (getD_mem (l := l) (i := i) (by omega) (0, 0))
    simp only [affidavitref02_Proof.L4, affidavitref02_Proof.B4]
    have h1 : 0 ≤ (N - 1) / (l.getD i (0, 0)).1 := Int.ediv_nonneg (by omega) (by omega)
    have h2 : (N - 1) / (l.getD i (0, 0)).1 ≤ N - 1 := Int.ediv_le_self _ (by omega)
    rw [dT (by omega), aT (by omega), aT (by omega), Int.toNat_natCast, Int.toNat_natCast, known_spec _ (by simp; omega) (by simp; omega), nT (by omega), wu_in (n := N - 1) (by omega) (by omega), Int.tdiv_eq_ediv_of_nonneg (by omega), wu_in h1 (by omega), rPow_spec hN hN' ha ha' 64 k _ (by omega) h1 (by omega) (by omega), drop_at (i := i) (by omega) (0, 0), List.all_cons, ix (by omega), ih m (i + 1) (by omega) (by omega)]
    cases ((P.take J).any (fun x => x.1 == (l.getD i (0, 0)).1) || ((l.getD i (0, 0)).1 == 2)) with
    | false => rw [Bool.not_false, cond_true, Bool.false_and, Bool.false_and, cond_false]
    | true =>
      rw [Bool.not_true, cond_false, Bool.true_and]
      cases (pw N a ((N - 1) / (l.getD i (0, 0)).1) == 1) with
      | false => rw [Bool.not_false, cond_false, Bool.true_and]
      | true => rw [Bool.not_true, cond_true, Bool.false_and, cond_false]

/-- The reference's proof i of a list. -/
def proofR (l : List (Int × Int × List (Int × Int))) (i : Nat) : Bool :=
  decide (i < 200) && (decide (i = 0 ∨ (l.getD (i - 1) (0, 0, [])).1 < (l.getD i (0, 0, [])).1) && showsK (fun y => (l.take i).any (fun x => x.1 == y) || (y == 2)) (l.getD i (0, 0, [])))

theorem proof_tail {k : Nat} (hk : 150 ≤ k) {R : Type} (ret : Bool → Option R) {l : List (Int × Int × List (Int × Int))} (hl : l.length + 2 ≤ k) (hl' : l.length < 281474976710656) {i : Nat} (hi : i < l.length) {x : Int × Int × List (Int × Int)} (hx : 0 ≤ x.2.1) (ht : ∀ y ∈ x.2.2, y.2 < 9223372036854775808) :
    (bif (decide (x.1 ≤ 2)) then
          (ret false)
        else
          (bif (decide (x.1 > 9223372036854775807)) then
            (ret false)
          else
            (bif ((x.2.1) == 0) then
              (ret false)
            else
              (bif (decide ((x.2.1) ≥ x.1)) then
                (ret false)
              else
                (bif (((x.2.2).length : Int) == 0) then
                  (ret false)
                else
                  (bif (decide (((x.2.2).length : Int) > 20)) then
                    (ret false)
                  else
                    (affidavitref02_Proof.L0 k (fun t44 =>
                      ret t44) (fun l7 i7 n7 x18 x19 x20 =>
                      bif (n7 != 1) then
                        (ret false)
                      else
                        (affidavitref01_Pow.f k x18 x19 (IntKind.wrap .u64 (x18 - 1)) (fun n8 =>
                          bif (n8 != 1) then
                            (ret false)
                          else
                            (affidavitref02_Proof.L4 k (fun t45 =>
                              ret t45) (fun _ =>
                              ret true) k l7 i7 0 x18 x19 x20)))) k l i (IntKind.wrap .u64 (x.1 - 1)) 0 (x.1) (x.2.1) (x.2.2)))))))) = ret (showsK (fun y => (l.take i).any (fun x => x.1 == y) || (y == 2)) x) := by
  obtain ⟨N, a, L⟩ := x
  dsimp only at *
  by_cases c : 2 < N ∧ N < 9223372036854775808 ∧ 1 ≤ a ∧ a < N ∧ 1 ≤ L.length ∧ L.length ≤ 20
  · have e : formB (N, a, L) = (inc L && (pl L (N - 1) == some 1)) := by
      unfold formB; rw [decide_eq_true c, Bool.true_and]
    unfold showsK
    rw [e, dF (by omega), dF (by omega), eF (by omega), dF (by omega), eF (by omega), dF (by omega)]
    have := ref_l0 (k := k) (by omega) (fun t44 => ret t44) (fun l7 i7 n7 x18 x19 x20 => bif (n7 != 1) then
                        (ret false)
                      else
                        (affidavitref01_Pow.f k x18 x19 (IntKind.wrap .u64 (x18 - 1)) (fun n8 =>
                          bif (n8 != 1) then
                            (ret false)
                          else
                            (affidavitref02_Proof.L4 k (fun t45 =>
                              ret t45) (fun _ =>
                              ret true) k l7 i7 0 x18 x19 x20)))) l i N a (l := L) (by omega) ht L.length k 0 (N - 1) (by omega) (by omega) (by omega) (by omega)
    rw [show ((0 : Nat) : Int) = 0 from rfl] at this
    rw [wu_in (n := N - 1) (by omega) (by omega), this, Nat.zero_sub, List.drop_zero]
    cases inc L with
    | false => rw [cond_false, Bool.false_and, Bool.false_and]
    | true =>
      rw [cond_true, Bool.true_and]
      cases hp : pl L (N - 1) with
      | none => rfl
      | some v =>
        rw [Option.elim_some]
        by_cases hv : v = 1
        · subst hv
          have hl4 := ref_l4 hk (fun t45 => ret t45) (fun _ => ret true) hl hl' (J := i) (by omega) (N := N) (a := a) (by omega) (by omega) (by omega) (by omega) (l := L) (by omega) (fun y hy => (pl_keys _ _ _ hp y hy).1) L.length k 0 (by omega) (by omega)
          rw [show ((0 : Nat) : Int) = 0 from rfl, List.drop_zero] at hl4
          rw [nF rfl, wu_in (n := N - 1) (by omega) (by omega), rPow_spec (p := N) (a := a) (by omega) (by omega) (by omega) (by omega) 64 k _ (by omega) (by omega) (by omega) (by omega), hl4]
          have hb : ((some 1 : Option Int) == some 1) = true := by decide
          rw [hb, Bool.true_and]
          by_cases hq : pw N a (N - 1) = 1
          · rw [nF hq, beq_iff_eq.2 hq, Bool.true_and]
            cases L.all (fun y => ((l.take i).any (fun x => x.1 == y.1) || (y.1 == 2)) && !(pw N a ((N - 1) / y.1) == 1))
            · rw [cond_false]
            · rw [cond_true]
          · rw [nT hq, beq_eq_false_iff_ne.2 hq, Bool.false_and]
        · have hb : ((some v : Option Int) == some 1) = false := by simp [hv]
          rw [nT hv, hb, Bool.false_and]
  · have e : formB (N, a, L) = false := by
      unfold formB; rw [decide_eq_false c, Bool.false_and]
    unfold showsK
    rw [e, Bool.false_and]
    have hx0 : 0 ≤ a := hx
    by_cases c1 : N ≤ 2
    · rw [dT c1]
    · by_cases c2 : N > 9223372036854775807
      · rw [dF c1, dT c2]
      · by_cases c3 : a = 0
        · rw [dF c1, dF c2, eT c3]
        · by_cases c4 : a ≥ N
          · rw [dF c1, dF c2, eF c3, dT c4]
          · by_cases c5 : (L.length : Int) = 0
            · rw [dF c1, dF c2, eF c3, dF c4, eT c5]
            · rw [dF c1, dF c2, eF c3, dF c4, eF c5, dT (by omega)]

theorem refProof_spec {l : List (Int × Int × List (Int × Int))} (hl' : l.length < 281474976710656) (hv : ∀ x ∈ l, 0 ≤ x.2.1 ∧ ∀ y ∈ x.2.2, y.2 < 9223372036854775808) {i : Nat} (hi : i < l.length) {k : Nat} (hk : 151 + l.length ≤ k) {R : Type} (ret : Bool → Option R) :
    affidavitref02_Proof.f k l i ret = ret (proofR l i) := by
  obtain ⟨k, rfl⟩ : ∃ m, k = m + 1 := ⟨k - 1, by omega⟩
  have hm := hv _ (getD_mem (l := l) hi (0, 0, []))
  have ht := proof_tail (k := k) (by omega) ret (l := l) (by omega) hl' hi hm.1 hm.2
  simp only [affidavitref02_Proof.f]
  unfold proofR
  rw [aT (by omega), Int.toNat_natCast]
  by_cases c : i < 200
  · rw [dF (by omega), decide_eq_true c, Bool.true_and]
    by_cases c1 : i = 0
    · rw [dF (by omega), decide_eq_true (p := i = 0 ∨ _) (.inl c1), Bool.true_and]
      exact ht
    · rw [dT (by omega), ixm (by omega) (by omega), aT (by omega), Int.toNat_natCast]
      by_cases c3 : (l.getD (i - 1) (0, 0, [])).1 < (l.getD i (0, 0, [])).1
      · rw [dF (by omega), decide_eq_true (p := i = 0 ∨ _) (.inr c3), Bool.true_and]
        exact ht
      · rw [dT (by omega), decide_eq_false (p := i = 0 ∨ _) (by omega), Bool.false_and]
  · rw [dT (by omega), decide_eq_false c, Bool.false_and]
end Go.Proofs.Ytanpdkllnmeenaa.M

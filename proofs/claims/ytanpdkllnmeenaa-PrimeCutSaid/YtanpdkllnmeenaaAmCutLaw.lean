/- The law PrimeCut. -/
import Derived.Test.YtanpdkllnmeenaaAmShown
import Derived.Test.YtanpdkllnmeenaaAmRightLaw
namespace Go.Proofs.Ytanpdkllnmeenaa.M
set_option linter.unusedVariables false
set_option maxRecDepth 100000
open Go Go.RowKit Go.Proofs Go.Proofs.Ytanpdkllnmeenaa.Am

abbrev Pf := Int × Int × List (Int × Int)
/-- Where the first proof stands that needs a number. -/
def cutAt (N : Int) : List Pf → Nat
  | [] => 0
  | x :: r => bif x.2.2.any (fun y => y.1 == N) then 0 else cutAt N r + 1
def lastN (last : Int) : List Pf → Int
  | [] => last
  | x :: r => lastN x.1 r
theorem cut_suffix {N : Int} : ∀ (r : List Pf) (i i' : Nat) (last last' : Int) (m m' : List (Unit × Int × Bool)), 1 ≤ i → firstFrom i last r m = i + r.length → i' ≤ i → last' ≤ last → N ≤ last → (∀ y, mget false m' y = (mget false m y && !(y == N))) → firstFrom i' last' r m' = i' + cutAt N r
  | [], i, i', last, last', m, m', h1, h, h2, h3, h4, h5 => by rw [firstFrom, cutAt]; rfl
  | x :: r, i, i', last, last', m, m', h1, h, h2, h3, h4, h5 => by
    obtain ⟨a1, a2, a3, a4⟩ := firstFrom_cons h
    have hx : last < x.1 := by rcases a2 with a2 | a2 <;> omega
    rw [firstFrom, cutAt, decide_eq_true (p := i' < 200) (by omega), decide_eq_true (p := (i' = 0 ∨ last' < x.1)) (.inr (by omega)), Bool.true_and, Bool.true_and]
    rw [showsB_K] at a3 ⊢
    unfold showsK at a3 ⊢
    rw [Bool.and_eq_true, Bool.and_eq_true] at a3
    rw [a3.1, a3.2.1, Bool.true_and, Bool.true_and]
    cases hc : x.2.2.any (fun y => y.1 == N) with
    | true =>
      have : x.2.2.all (fun y => mget false m' y.1 && !(pw x.1 x.2.1 ((x.1 - 1) / y.1) == 1)) = false := by
        rw [← Bool.not_eq_true, List.all_eq_true]
        intro hall
        rw [List.any_eq_true] at hc
        obtain ⟨y, hy, hyN⟩ := hc
        have := hall y hy
        rw [h5, hyN] at this
        simp at this
      rw [this, cond_false, cond_true]
      rfl
    | false =>
      have : x.2.2.all (fun y => mget false m' y.1 && !(pw x.1 x.2.1 ((x.1 - 1) / y.1) == 1)) = true := by
        rw [List.all_eq_true]
        intro y hy
        have h6 := List.all_eq_true.1 a3.2.2 y hy
        have h7 : (y.1 == N) = false := by
          rw [← Bool.not_eq_true]
          intro h8
          have : x.2.2.any (fun y => y.1 == N) = true := List.any_eq_true.2 ⟨y, hy, h8⟩
          rw [hc] at this; cases this
        rw [h5, h7, Bool.not_false, Bool.and_true]
        exact h6
      rw [this, cond_true, cond_false, cut_suffix (N := N) r (i + 1) (i' + 1) x.1 x.1 _ _ (by omega) a4 (by omega) (Int.le_refl _) (by omega) (fun y => ?_)]
      · omega
      · rw [mget_mset, mget_mset]
        by_cases e : x.1 = y
        · rw [if_pos e, if_pos e, beq_eq_false_iff_ne.2 (by omega)]; rfl
        · rw [if_neg e, if_neg e, h5]
theorem first_append : ∀ (a b : List Pf) (i : Nat) (last : Int) (m : List (Unit × Int × Bool)), firstFrom i last (a ++ b) m = i + (a ++ b).length →
    firstFrom (i + a.length) (lastN last a) b (knownM a m) = (i + a.length) + b.length
  | [], b, i, last, m, h => by simpa [lastN, knownM] using h
  | x :: a, b, i, last, m, h => by
    rw [List.cons_append] at h
    obtain ⟨_, _, _, a4⟩ := firstFrom_cons h
    have := first_append a b (i + 1) x.1 _ a4
    rw [lastN, knownM, List.length_cons, show i + (a.length + 1) = i + 1 + a.length by omega]
    exact this
theorem first_append2 : ∀ (a b : List Pf) (i : Nat) (last : Int) (m : List (Unit × Int × Bool)), firstFrom i last a m = i + a.length → firstFrom i last (a ++ b) m = firstFrom (i + a.length) (lastN last a) b (knownM a m)
  | [], b, i, last, m, h => by simp [lastN, knownM]
  | x :: a, b, i, last, m, h => by
    obtain ⟨a1, a2, a3, a4⟩ := firstFrom_cons h
    rw [List.cons_append, firstFrom, decide_eq_true a1, decide_eq_true a2, a3, Bool.true_and, Bool.true_and, cond_true, first_append2 a b (i + 1) x.1 _ a4, lastN, knownM, List.length_cons, show i + (a.length + 1) = i + 1 + a.length by omega]
theorem last_ge : ∀ (a : List Pf) (j : Nat) (last : Int) (m : List (Unit × Int × Bool)), 1 ≤ j → firstFrom j last a m = j + a.length → last ≤ lastN last a
  | [], j, last, m, _, _ => Int.le_refl _
  | y :: a, j, last, m, hj, h => by
    obtain ⟨_, c2, _, c4⟩ := firstFrom_cons h
    have := last_ge a (j + 1) y.1 _ (by omega) c4
    rw [lastN]
    rcases c2 with c2 | c2 <;> omega
theorem known_le : ∀ (a : List Pf) (i : Nat) (last : Int) (m : List (Unit × Int × Bool)), firstFrom i last a m = i + a.length → (i = 0 → last ≤ 2) → (∀ y, mget false m y = true → y ≤ max 2 last) →
    (∀ y, mget false (knownM a m) y = true → y ≤ max 2 (lastN last a)) ∧ ∀ x ∈ a, x.1 ≤ lastN last a
  | [], i, last, m, h, h0, hm => ⟨hm, fun x hx => by cases hx⟩
  | x :: a, i, last, m, h, h0, hm => by
    obtain ⟨a1, a2, a3, a4⟩ := firstFrom_cons h
    rw [showsB_K] at a3
    unfold showsK at a3
    rw [Bool.and_eq_true] at a3
    have hf := (form_facts a3.1).1.1
    have hlt : max 2 last ≤ x.1 := by
      rcases a2 with a2 | a2
      · have := h0 a2; omega
      · omega
    obtain ⟨b1, b2⟩ := known_le a (i + 1) x.1 _ a4 (fun h => by omega) (fun y hy => by
      rw [mget_mset] at hy
      split at hy
      · omega
      · have := hm y hy; omega)
    refine ⟨b1, fun z hz => ?_⟩
    rcases List.mem_cons.1 hz with rfl | hz
    · rw [lastN]
      exact last_ge a (i + 1) z.1 _ (by omega) a4
    · rw [lastN]; exact b2 z hz
/-- A list without one of its proofs. -/
theorem cut_first {l : List Pf} (hf : firstN l = l.length) {k : Nat} (hk : k < l.length) :
    firstN (l.take k ++ l.drop (k + 1)) = k + cutAt (l.getD k (0, 0, [])).1 (l.drop (k + 1)) ∧ ∀ x ∈ l.take k ++ l.drop (k + 1), firstN (l.take k ++ l.drop (k + 1)) = (l.take k ++ l.drop (k + 1)).length → x.1 ≠ (l.getD k (0, 0, [])).1 := by
  have hl : l = l.take k ++ (l.getD k (0, 0, []) :: l.drop (k + 1)) := by
    rw [← drop_at hk, List.take_append_drop]
  have htk := list_take hf k
  have hkl : (l.take k).length = k := by rw [List.length_take]; omega
  unfold firstN at htk
  rw [hkl] at htk
  have h0 : firstFrom 0 0 (l.take k) (mset [] 2 true) = 0 + (l.take k).length := by rw [htk, hkl]; omega
  have hfull : firstFrom 0 0 (l.take k ++ (l.getD k (0, 0, []) :: l.drop (k + 1))) (mset [] 2 true) = 0 + (l.take k ++ (l.getD k (0, 0, []) :: l.drop (k + 1))).length := by
    rw [← hl, Nat.zero_add]; exact hf
  have h1 := first_append _ _ _ _ _ hfull
  obtain ⟨b1, b2, b3, b4⟩ := firstFrom_cons h1
  have hk2 := known_le _ _ _ _ h0 (fun _ => by omega) (fun y hy => by
    rw [mget_mset] at hy
    split at hy
    · omega
    · simp [mget] at hy)
  rw [showsB_K] at b3
  unfold showsK at b3
  rw [Bool.and_eq_true] at b3
  have hN2 := (form_facts b3.1).1.1
  have hlast : lastN 0 (l.take k) < (l.getD k (0, 0, [])).1 := by
    rcases b2 with b2 | b2
    · rw [Nat.zero_add, hkl] at b2
      subst b2
      rw [List.take_zero, lastN]
      omega
    · exact b2
  have hfirst : firstN (l.take k ++ l.drop (k + 1)) = k + cutAt (l.getD k (0, 0, [])).1 (l.drop (k + 1)) := by
    unfold firstN
    rw [first_append2 _ _ _ _ _ h0, Nat.zero_add, hkl]
    refine cut_suffix _ (0 + (l.take k).length + 1) k _ _ _ _ (by omega) b4 (by omega) (by omega) (Int.le_refl _) (fun y => ?_)
    rw [mget_mset]
    by_cases e : (l.getD k (0, 0, [])).1 = y
    · rw [if_pos e, ← e, beq_self_eq_true, Bool.not_true, Bool.and_false, ← Bool.not_eq_true]
      intro hy
      have := hk2.1 _ hy
      omega
    · rw [if_neg e, beq_eq_false_iff_ne.2 (by omega), Bool.not_false, Bool.and_true]
  refine ⟨hfirst, fun x hx _ => ?_⟩
  rcases List.mem_append.1 hx with hx | hx
  · have := hk2.2 x hx
    omega
  · have key : ∀ (r : List Pf) (j : Nat) (last : Int) (m : List (Unit × Int × Bool)), 1 ≤ j → firstFrom j last r m = j + r.length → ∀ x ∈ r, last < x.1 := by
      intro r
      induction r with
      | nil => intro j last m _ _ x hx; cases hx
      | cons y r ih =>
        intro j last m hj h x hx
        obtain ⟨_, c2, _, c4⟩ := firstFrom_cons h
        have hy : last < y.1 := by rcases c2 with c2 | c2 <;> omega
        rcases List.mem_cons.1 hx with rfl | hx
        · exact hy
        · have := ih (j + 1) y.1 _ (by omega) c4 x hx
          omega
    have := key _ _ _ _ (by omega) b4 x hx
    omega

theorem cut_l4 {k : Nat} {R : Type} (x0 : List Pf → Int → Int → Int → List Pf → Option R) {l : List Pf} (hl : l.length < 281474976710656) {K i : Nat} (hK : K < l.length) (hi : i < l.length) (hi1 : 1 ≤ i) (less : List Pf) (hp : (l.getD i (0, 0, [])).2.2.length < 281474976710656) (d : Nat) : ∀ (m n : Nat) (need : Int), n + d = (l.getD i (0, 0, [])).2.2.length → d < m →
    affidavitlaw02_PrimeCut.L4 k x0 m l K need i n less = x0 l K (bif ((l.getD i (0, 0, [])).2.2.drop n).any (fun y => y.1 == (l.getD K (0, 0, [])).1) then ((i - 1 : Nat) : Int) else need) i less := by
  induction d with
  | zero =>
    intro m n need hn hm
    obtain ⟨m, rfl⟩ : ∃ j, m = j + 1 := ⟨m - 1, by omega⟩
    simp only [affidavitlaw02_PrimeCut.L4, affidavitlaw02_PrimeCut.B4]
    rw [aT (by omega), Int.toNat_natCast, dF (by omega), List.drop_of_length_le (by omega), List.any_nil, cond_false]
  | succ d ih =>
    intro m n need hn hm
    obtain ⟨m, rfl⟩ : ∃ j, m = j + 1 := ⟨m - 1, by omega⟩
    simp only [affidavitlaw02_PrimeCut.L4, affidavitlaw02_PrimeCut.B4]
    rw [aT (by omega), Int.toNat_natCast, dT (by omega), aT (by omega), aT (by omega), aT (by omega), Int.toNat_natCast, Int.toNat_natCast, ixm (by omega) hi1, ix (by omega), ih m (n + 1) _ (by omega) (by omega), ih m (n + 1) _ (by omega) (by omega), drop_at (i := n) (by omega) (0, 0), List.any_cons]
    cases hc : (((l.getD i (0, 0, [])).2.2.getD n (0, 0)).1 == (l.getD K (0, 0, [])).1)
    · rw [cond_false, Bool.false_or]
    · rw [cond_true, Bool.true_or, cond_true]
      cases ((l.getD i (0, 0, [])).2.2.drop (n + 1)).any (fun y => y.1 == (l.getD K (0, 0, [])).1)
      · rw [cond_false]
      · rw [cond_true]
theorem cut_l2 {k : Nat} {R : Type} (x0 : List Pf → Int → Int → List Pf → Option R) {l : List Pf} (hl : l.length < 281474976710656) {K : Nat} (hK : K < l.length) (less : List Pf) (hp : ∀ x ∈ l, x.2.2.length < k ∧ x.2.2.length < 281474976710656) (d : Nat) : ∀ (m : Nat), d ≤ (l.drop (K + 1)).length → d < m →
    affidavitlaw02_PrimeCut.L2 k x0 m l K ((K + (d + cutAt (l.getD K (0, 0, [])).1 ((l.drop (K + 1)).drop d)) : Nat) : Int) ((K + d : Nat) : Int) less = x0 l K ((K + cutAt (l.getD K (0, 0, [])).1 (l.drop (K + 1)) : Nat) : Int) less := by
  induction d with
  | zero =>
    intro m hd hm
    obtain ⟨m, rfl⟩ : ∃ j, m = j + 1 := ⟨m - 1, by omega⟩
    simp only [affidavitlaw02_PrimeCut.L2, affidavitlaw02_PrimeCut.B2]
    rw [dF (by omega), List.drop_zero, Nat.zero_add]
  | succ d ih =>
    intro m hd hm
    obtain ⟨m, rfl⟩ : ∃ j, m = j + 1 := ⟨m - 1, by omega⟩
    have hlen : (l.drop (K + 1)).length = l.length - (K + 1) := List.length_drop
    have hpi := hp _ (getD_mem (l := l) (i := K + (d + 1)) (by omega) (0, 0, []))
    simp only [affidavitlaw02_PrimeCut.L2, affidavitlaw02_PrimeCut.B2]
    have h4 := cut_l4 (k := k) (fun l5 k_2 needed2 i3 less2 => affidavitlaw02_PrimeCut.L2 k x0 m l5 k_2 needed2 (IntKind.wrap .i64 (i3 - 1)) less2) hl hK (i := K + (d + 1)) (by omega) (by omega) less hpi.2 (l.getD (K + (d + 1)) (0, 0, [])).2.2.length k 0 ((K + (d + 1 + cutAt (l.getD K (0, 0, [])).1 ((l.drop (K + 1)).drop (d + 1))) : Nat) : Int) (by omega) hpi.1
    rw [show ((0 : Nat) : Int) = 0 from rfl, List.drop_zero] at h4
    rw [dT (by omega), h4, ixm (by omega) (by omega), show K + (d + 1) - 1 = K + d by omega]
    have hdr : (l.drop (K + 1)).drop d = l.getD (K + (d + 1)) (0, 0, []) :: (l.drop (K + 1)).drop (d + 1) := by
      rw [drop_at (i := d) (by omega) (0, 0, [])]
      congr 1
      rw [List.getD_eq_getElem?_getD, List.getD_eq_getElem?_getD, List.getElem?_drop, show K + 1 + d = K + (d + 1) by omega]
    rw [← ih m (by omega) (by omega), hdr, cutAt]
    congr 1
    cases (l.getD (K + (d + 1)) (0, 0, [])).2.2.any (fun y => y.1 == (l.getD K (0, 0, [])).1)
    · rw [cond_false, cond_false]
      congr 1
      omega
    · rw [cond_true, cond_true]
      congr 1
theorem cut_l0 {l : List Pf} (hf : firstN l = l.length) (h40 : l.length ≤ 40) {k : Nat} (hk : 200 ≤ k) {R : Type} (x0 : Bool → Option R) (x1 : List Pf → Int → Option R) (at_ : Int) (d : Nat) : ∀ (m i : Nat), i + d = l.length + 1 → d < m →
    affidavitlaw02_PrimeCut.L0 k x0 x1 m l at_ i = x1 l at_ := by
  induction d with
  | zero =>
    intro m i hi hm
    obtain ⟨m, rfl⟩ : ∃ j, m = j + 1 := ⟨m - 1, by omega⟩
    simp only [affidavitlaw02_PrimeCut.L0, affidavitlaw02_PrimeCut.B0]
    rw [dF (by omega)]
  | succ d ih =>
    intro m i hi hm
    obtain ⟨m, rfl⟩ : ∃ j, m = j + 1 := ⟨m - 1, by omega⟩
    have htk := list_take hf i
    have htl : (l.take i).length = i := by rw [List.length_take]; omega
    simp only [affidavitlaw02_PrimeCut.L0, affidavitlaw02_PrimeCut.B0]
    rw [dT (by omega), aT (by omega), aT (by omega), Int.toNat_natCast, check_spec (by omega) (by omega), htk, beq_self_eq_true, Bool.not_true, cond_false, first_spec (by omega) (by omega), htk, htl, nF rfl, ix (by omega), ih m (i + 1) (by omega) (by omega)]
theorem primeCut_true {l : List Pf} {at_ : Int} (hl : l.length < 281474976710656) (h0 : 0 ≤ at_) (h1 : at_ < 256) {R : Type} (ret : Bool → Option R) :
    affidavitlaw02_PrimeCut.f (l.length + 600) l at_ ret = ret true := by
  rw [show l.length + 600 = (l.length + 599) + 1 from rfl, affidavitlaw02_PrimeCut.f, awake_spec (by omega), Bool.not_true, cond_false, short_spec hl (by omega)]
  have hle : decide (((firstN l : Nat) : Int) ≤ (l.length : Int)) = true := by
    rw [decide_eq_true]
    have := (firstFrom_le l 0 0 (mset [] 2 true)).2
    unfold firstN
    omega
  cases hs : shortB l
  · rw [Bool.not_false, cond_true, first_spec hl (by omega), hle]
  · have h40 := short_len hs
    have hp30 : ∀ x ∈ l, x.2.2.length ≤ 30 := fun x hx => by
      unfold shortB at hs
      rw [Bool.and_eq_true, List.all_eq_true] at hs
      exact of_decide_eq_true (hs.2 x hx)
    rw [Bool.not_true, cond_false, check_spec hl (by omega)]
    cases hc : firstN l == l.length
    · rw [Bool.not_false, cond_true, first_spec hl (by omega), hle]
    · have hf : firstN l = l.length := beq_iff_eq.1 hc
      have hl0 := cut_l0 hf h40 (k := l.length + 599) (by omega) (fun t4 => ret t4) (fun l2 at_2 =>
                  bif ((l2.length : Int) == 0) then
                    (ret true)
                  else
                    (bif ((l2.length : Int) != 0) then (bif (decide (0 ≤ (Int.tmod (IntKind.wrap .i64 at_2) (l2.length : Int))) && decide ((Int.tmod (IntKind.wrap .i64 at_2) (l2.length : Int)) ≤ (l2.length : Int))) then (bif (decide (0 ≤ (IntKind.wrap .i64 ((Int.tmod (IntKind.wrap .i64 at_2) (l2.length : Int)) + 1))) && decide ((IntKind.wrap .i64 ((Int.tmod (IntKind.wrap .i64 at_2) (l2.length : Int)) + 1)) ≤ (l2.length : Int))) then (bif (decide (([] ++ (l2.take (Int.tmod (IntKind.wrap .i64 at_2) (l2.length : Int)).toNat)).length < 1099511627776)) then (bif (decide ((([] ++ (l2.take (Int.tmod (IntKind.wrap .i64 at_2) (l2.length : Int)).toNat)) ++ (l2.drop (IntKind.wrap .i64 ((Int.tmod (IntKind.wrap .i64 at_2) (l2.length : Int)) + 1)).toNat)).length < 1099511627776)) then (affidavitlaw02_PrimeCut.L2 (l.length + 599) (fun l6 k_3 needed3 less3 =>
                      prime_First.f (l.length + 599) less3 (fun n4 =>
                        bif (n4 == needed3) then
                          (bif (decide (0 ≤ k_3) && decide (k_3 < (l6.length : Int))) then (prime_Shows.f (l.length + 599) less3 ((l6.getD k_3.toNat (0, 0, [])).1) (fun b4 =>
                            ret (!b4))) else none)
                        else
                          (ret false))) (l.length + 599) l2 (Int.tmod (IntKind.wrap .i64 at_2) (l2.length : Int)) ((([] ++ (l2.take (Int.tmod (IntKind.wrap .i64 at_2) (l2.length : Int)).toNat)) ++ (l2.drop (IntKind.wrap .i64 ((Int.tmod (IntKind.wrap .i64 at_2) (l2.length : Int)) + 1)).toNat)).length : Int) (IntKind.wrap .i64 ((l2.length : Int) - 1)) (([] ++ (l2.take (Int.tmod (IntKind.wrap .i64 at_2) (l2.length : Int)).toNat)) ++ (l2.drop (IntKind.wrap .i64 ((Int.tmod (IntKind.wrap .i64 at_2) (l2.length : Int)) + 1)).toNat))) else none) else none) else none) else none) else none)) at_ (l.length + 1) (l.length + 599) 0 (by omega) (by omega)
      rw [show ((0 : Nat) : Int) = 0 from rfl] at hl0
      rw [Bool.not_true, cond_false, hl0]
      clear hl0
      by_cases he : l.length = 0
      · rw [eT (by omega)]
      · have hw : IntKind.wrap .i64 at_ = at_ := w64_in (by omega) (by omega)
        rw [eF (by omega), nT (by omega), hw, Int.tmod_eq_emod_of_nonneg h0]
        obtain ⟨K, hK⟩ : ∃ K : Nat, at_ % (l.length : Int) = K := ⟨(at_ % (l.length : Int)).toNat, by
          have := Int.emod_nonneg at_ (show (l.length : Int) ≠ 0 by omega); omega⟩
        have hKl : K < l.length := by
          have := Int.emod_lt_of_pos at_ (show (0 : Int) < l.length by omega); omega
        rw [hK, ix (by omega), Int.toNat_natCast, Int.toNat_natCast, List.nil_append]
        have hlen : (l.take K ++ l.drop (K + 1)).length = l.length - 1 := by rw [List.length_append, List.length_take, List.length_drop]; omega
        rw [aT (by omega), aT (by omega), dT (by rw [List.length_take]; omega), dT (by omega), ixm (by omega) (by omega)]
        obtain ⟨c1, c2⟩ := cut_first hf hKl
        have hd0 : cutAt (l.getD K (0, 0, [])).1 ((l.drop (K + 1)).drop (l.drop (K + 1)).length) = 0 := by
          rw [List.drop_of_length_le (Nat.le_refl _)]; rfl
        have hld : (l.drop (K + 1)).length = l.length - (K + 1) := List.length_drop
        have h2 := cut_l2 (k := l.length + 599) (fun l6 k_3 needed3 less3 =>
                      prime_First.f (l.length + 599) less3 (fun n4 =>
                        bif (n4 == needed3) then
                          (bif (decide (0 ≤ k_3) && decide (k_3 < (l6.length : Int))) then (prime_Shows.f (l.length + 599) less3 ((l6.getD k_3.toNat (0, 0, [])).1) (fun b4 =>
                            ret (!b4))) else none)
                        else
                          (ret false))) hl hKl (l.take K ++ l.drop (K + 1)) (fun x hx => by have := hp30 x hx; omega) (l.drop (K + 1)).length (l.length + 599) (Nat.le_refl _) (by omega)
        rw [hd0, show K + ((l.drop (K + 1)).length + 0) = l.length - 1 by omega, show K + (l.drop (K + 1)).length = l.length - 1 by omega] at h2
        rw [hlen]
        rw [h2, first_spec (by omega) (by omega), c1, eT rfl, aT (by omega), Int.toNat_natCast, shows2_spec _ (by omega) (by omega), c1]
        cases hc3 : (K + cutAt (l.getD K (0, 0, [])).1 (l.drop (K + 1)) == (l.take K ++ l.drop (K + 1)).length)
        · rfl
        · have hne := fun x hx => c2 x hx (by rw [c1]; exact beq_iff_eq.1 hc3)
          have hany : (l.take K ++ l.drop (K + 1)).any (fun x => x.1 == (l.getD K (0, 0, [])).1) = false := by
            rw [← Bool.not_eq_true, List.any_eq_true]
            rintro ⟨x, hx, hx2⟩
            exact hne x hx (beq_iff_eq.1 hx2)
          obtain ⟨hp, hfo, _, _⟩ := list_prime hf _ (getD_mem hKl (0, 0, []))
          have h2N := (form_facts hfo).1.1
          rw [hany, beq_eq_false_iff_ne.2 (show (l.getD K (0, 0, [])).1 ≠ 2 by omega)]
          rfl
end Go.Proofs.Ytanpdkllnmeenaa.M

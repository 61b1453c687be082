/- prime.Build: which proofs there are. -/
import Derived.Test.YtanpdkllnmeenaaSpa
namespace Go.Proofs.Ytanpdkllnmeenaa.Am
open Go Fp
def lg (q : Int) : Nat := Nat.log2 q.toNat
/-- The sum of the logs, and how many twos. -/
def lgs : List Int → Nat
  | [] => 0
  | q :: r => lg q + lgs r
def twos : List Int → Nat
  | [] => 0
  | q :: r => (if q = 2 then 1 else 0) + twos r
theorem lgs_append (a b : List Int) : lgs (a ++ b) = lgs a + lgs b := by
  induction a with
  | nil => simp [lgs]
  | cons x a ih => simp only [List.cons_append, lgs, ih]; omega
theorem twos_append (a b : List Int) : twos (a ++ b) = twos a + twos b := by
  induction a with
  | nil => simp [twos]
  | cons x a ih => simp only [List.cons_append, twos, ih]; omega
theorem twos_le (a : List Int) : twos a ≤ lgs a := by
  induction a with
  | nil => simp [twos]
  | cons x a ih =>
    simp only [twos, lgs]
    split
    · rename_i h; subst h; have : lg 2 = 1 := by decide
      omega
    · omega
theorem twos_mem {a : List Int} (h : (2 : Int) ∈ a) : 1 ≤ twos a := by
  induction a with
  | nil => cases h
  | cons x a ih =>
    simp only [twos]
    rcases List.mem_cons.1 h with rfl | h
    · simp
    · have := ih h; omega
theorem lg_le {q : Int} (h : 1 ≤ q) : (2 : Int) ^ lg q ≤ q := by
  have := Nat.log2_self_le (n := q.toNat) (by omega)
  have h2 : ((2 ^ lg q : Nat) : Int) ≤ (q.toNat : Int) := by exact_mod_cast this
  rw [Int.toNat_of_nonneg (by omega)] at h2
  simpa using h2
theorem le_lg {q : Int} {n : Nat} (h0 : 1 ≤ q) (h : (2 : Int) ^ n ≤ q) : n ≤ lg q := by
  unfold lg
  rw [Nat.le_log2 (by omega)]
  have : ((2 ^ n : Nat) : Int) ≤ (q.toNat : Int) := by rw [Int.toNat_of_nonneg (by omega)]; simpa using h
  exact_mod_cast this
theorem lg_pos {q : Int} (h : 2 ≤ q) : 1 ≤ lg q := le_lg (by omega) (by simpa using h)
/-- The logs of a number's parts. -/
theorem pl_lgs : ∀ (l : List (Int × Int)) (n : Int), 1 ≤ n → pl l n = some 1 → (2 : Int) ^ lgs (l.map (·.1)) ≤ n
  | [], n, h1, h => by simpa [lgs] using h1
  | a :: r, n, h1, h => by
    rw [pl] at h
    by_cases cc : 2 ≤ a.1 ∧ 1 ≤ a.2
    · rw [dT cc] at h
      cases hd : dv a.1 a.2.toNat n with
      | none => rw [hd] at h; cases h
      | some w =>
        rw [hd] at h
        have hw := dv_pos cc.1 _ _ _ h1 hd
        have ih := pl_lgs r w hw.1 h
        have hle : a.1 * w ≤ n := by
          obtain ⟨t, ht⟩ : ∃ t, a.2.toNat = t + 1 := ⟨a.2.toNat - 1, by omega⟩
          rw [ht] at hd
          simp only [dv] at hd
          split at hd
          · rename_i hm
            have e : a.1 * (n / a.1) = n := by have := Int.mul_ediv_add_emod n a.1; omega
            have hpos : 1 ≤ n / a.1 := by
              apply Classical.byContradiction
              intro hn
              have h0 : 0 ≤ n / a.1 := Int.ediv_nonneg (by omega) (by omega)
              have : n / a.1 = 0 := by omega
              rw [this] at e; omega
            have := dv_pos cc.1 _ _ _ hpos hd
            have : a.1 * w ≤ a.1 * (n / a.1) := Int.mul_le_mul_of_nonneg_left this.2 (by omega)
            omega
          · cases hd
        rw [List.map_cons, lgs, Int.pow_add]
        have h5 : (2 : Int) ^ lg a.1 * 2 ^ lgs (r.map (·.1)) ≤ a.1 * w := Int.mul_le_mul (lg_le (by omega)) ih (Int.le_of_lt (Int.pow_pos (by omega))) (by omega)
        omega
    · rw [dF cc] at h; cases h
theorem mhas_mset {V : Type} (xs : List (Unit × Int × V)) (n : Int) (y : V) (m : Int) : mhas (mset xs n y) m = (n == m || mhas xs m) := by
  induction xs with
  | nil => simp [mset, mhas]
  | cons e r ih =>
    rw [mset]
    by_cases h : e.2.1 = n
    · rw [if_pos h]
      unfold mhas
      rw [List.any_cons, List.any_cons, h]
      cases n == m <;> simp
    · rw [if_neg h]
      unfold mhas at ih ⊢
      rw [List.any_cons, List.any_cons, ih]
      cases e.2.1 == m <;> cases n == m <;> simp
theorem mset_new {V : Type} (xs : List (Unit × Int × V)) (n : Int) (y : V) (h : mhas xs n = false) : mset xs n y = xs ++ [((), n, y)] := by
  induction xs with
  | nil => rfl
  | cons e r ih =>
    unfold mhas at h ih
    rw [List.any_cons, Bool.or_eq_false_iff] at h
    rw [mset, if_neg (beq_eq_false_iff_ne.1 h.1), ih h.2]; rfl
theorem mhas_iff {V : Type} {xs : List (Unit × Int × V)} {n : Int} : mhas xs n = true ↔ ∃ e ∈ xs, e.2.1 = n := by
  unfold mhas
  rw [List.any_eq_true]
  exact ⟨fun ⟨e, h1, h2⟩ => ⟨e, h1, beq_iff_eq.1 h2⟩, fun ⟨e, h1, h2⟩ => ⟨e, h1, beq_iff_eq.2 h2⟩⟩
end Go.Proofs.Ytanpdkllnmeenaa.Am
namespace Go.Proofs.Ytanpdkllnmeenaa.M
set_option linter.unusedVariables false
set_option maxRecDepth 100000
open Go Go.RowKit Go.Proofs Go.Proofs.Ytanpdkllnmeenaa.Am Fp

abbrev Pf := Int × Int × List (Int × Int)
abbrev Dn := List (Unit × Int × Int × Int × List (Int × Int))
/-- A prime's proof. -/
noncomputable def prf (q : Int) : Int × Int × List (Int × Int) := (q, (rootN q : Int), pts q)
structure BInv (p : Int) (done : Dn) (left : List Int) : Prop where
  nd : (done.map (·.2.1)).Nodup
  val : ∀ e ∈ done, e.2.2 = prf e.2.1 ∧ PrI e.2.1 ∧ 3 ≤ e.2.1 ∧ e.2.1 ≤ p
  lf : ∀ q ∈ left, PrI q ∧ q ≤ p
  cl : ∀ e ∈ done, ∀ y ∈ pts e.2.1, y.1 = 2 ∨ mhas done y.1 = true ∨ y.1 ∈ left
  nee : ∀ q, (mhas done q = true ∨ q ∈ left) → q = p ∨ ∃ e ∈ done, ∃ y ∈ pts e.2.1, y.1 = q
  has : mhas done p = true ∨ p ∈ left
  cnt : done.length + (lgs left - twos left) ≤ lg p
theorem build_l2 {k : Nat} {R : Type} (x0 : Dn → List Int → Option R) (done : Dn) {l : List (Int × Int)} (hl : l.length < 100000) (d : Nat) : ∀ (m i : Nat) (left : List Int), i + d = l.length → d < m → left.length + d < 1000000000 →
    prime_Build.L2 k x0 m (l.length : Int) i done left l = x0 done (left ++ (l.drop i).map (·.1)) := by
  induction d with
  | zero =>
    intro m i left hi hm hb
    obtain ⟨m, rfl⟩ : ∃ j, m = j + 1 := ⟨m - 1, by omega⟩
    simp only [prime_Build.L2, prime_Build.B2]
    rw [dF (by omega), List.drop_of_length_le (by omega), List.map_nil, List.append_nil]
  | succ d ih =>
    intro m i left hi hm hb
    obtain ⟨m, rfl⟩ : ∃ j, m = j + 1 := ⟨m - 1, by omega⟩
    simp only [prime_Build.L2, prime_Build.B2]
    rw [dT (by omega), aT (by omega), Int.toNat_natCast, dT (by simp; omega), ix (by omega), ih m (i + 1) _ (by omega) (by omega) (by simp; omega), drop_at (i := i) (by omega) (0, 0), List.map_cons, List.append_assoc]
    rfl
theorem two_part {q : Int} (hp : PrI q) (h3 : 3 ≤ q) (hq : q < 2147483648) : (2 : Int) ∈ (pts q).map (·.1) := by
  obtain ⟨_, h1, _, h4, _⟩ := pts_spec (q := q) (by omega) hq
  have hodd : q % 2 = 1 := by
    have := hp.2.2 2
    by_cases c : q % 2 = 0
    · have hd : 2 ∣ q.toNat := by omega
      rcases this hd with e | e <;> omega
    · omega
  obtain ⟨y, hy, hd⟩ := pl_dvd two_prime.2 _ _ h1 (show (2 : Int) ∣ q - 1 by omega)
  obtain ⟨a1, _, _, _, _⟩ := h4 y hy
  have : (2 : Nat) ∣ y.1.toNat := by
    have h5 : (2 : Int) ∣ y.1 := hd
    have := a1.1
    omega
  rcases a1.2.2 2 this with e | e
  · omega
  · rw [List.mem_map]
    exact ⟨y, hy, by have := a1.1; omega⟩
theorem pts_lgs {q : Int} (hp : PrI q) (h3 : 3 ≤ q) (hq : q < 2147483648) : lgs ((pts q).map (·.1)) ≤ lg q ∧ 1 ≤ twos ((pts q).map (·.1)) := by
  obtain ⟨_, h1, _, h4, _⟩ := pts_spec (q := q) (by omega) hq
  have := pl_lgs _ _ (by omega) h1
  exact ⟨le_lg (by omega) (by omega), twos_mem (two_part hp h3 hq)⟩
/-- The loop of prime.Build, of a prime. -/
theorem build_l0 {p : Int} (hp3 : 3 ≤ p) (hp2 : p < 16777216) {k : Nat} (hk : 16777300 ≤ k) (w : Nat) : ∀ (m : Nat) (done : Dn) (left : List Int), 2 * lgs left - twos left ≤ w → w < m → left.length ≤ w → left.length + 100 * w < 1000000 → BInv p done left →
    ∃ done', BInv p done' [] ∧ ∀ {R : Type} (x0 : Int → List (Int × Int × List (Int × Int)) → Option R) (x1 : Dn → Option R), prime_Build.L0 k x0 x1 m done left = x1 done' := by
  induction w with
  | zero =>
    intro m done left hw hm hl hb hi
    obtain ⟨m, rfl⟩ : ∃ j, m = j + 1 := ⟨m - 1, by omega⟩
    have : left = [] := List.length_eq_zero_iff.1 (by omega)
    subst this
    exact ⟨done, hi, fun x0 x1 => by simp only [prime_Build.L0, prime_Build.B0]; rw [dF (by simp)]⟩
  | succ w ih =>
    intro m done left hw hm hl hb hi
    obtain ⟨m, rfl⟩ : ∃ j, m = j + 1 := ⟨m - 1, by omega⟩
    match left, hw, hl, hb, hi with
    | [], hw, hl, hb, hi => exact ⟨done, hi, fun x0 x1 => by simp only [prime_Build.L0, prime_Build.B0]; rw [dF (by simp)]⟩
    | q :: r, hw, hl, hb, hi =>
      obtain ⟨hq, hqp⟩ := hi.lf q List.mem_cons_self
      have hq2 := hq.1
      have htl := twos_le r
      have hlq := lg_pos hq2
      simp only [lgs, twos] at hw
      rw [List.length_cons] at hl hb
      have hlr : r.length ≤ 2 * lgs r - twos r := by
        have : ∀ r : List Int, (∀ q ∈ r, 2 ≤ q) → r.length + twos r ≤ 2 * lgs r := by
          intro r
          induction r with
          | nil => intro _; simp [twos, lgs]
          | cons x r ih =>
            intro h
            have h1 := ih fun q hq => h q (List.mem_cons_of_mem _ hq)
            have h2 := lg_pos (h x List.mem_cons_self)
            simp only [List.length_cons, twos, lgs]
            split <;> omega
        have := this r fun q hq => (hi.lf q (List.mem_cons_of_mem _ hq)).1.1
        omega
      have e0 : (q :: r).getD ((0 : Int).toNat) (0 : Int) = q := rfl
      have edrop : ((q :: r).drop ((1 : Int).toNat)).take (((q :: r).length : Int).toNat - (1 : Int).toNat) = r := by
        show (r.take _) = r
        rw [List.take_of_length_le]
        simp
      by_cases hin : mhas done q = true ∨ q = 2
      · have hi2 : BInv p done r := by
          refine ⟨hi.nd, hi.val, fun z hz => hi.lf z (List.mem_cons_of_mem _ hz), fun e he y hy => ?_, fun z hz => hi.nee z (hz.imp id fun h => List.mem_cons_of_mem _ h), ?_, ?_⟩
          · rcases hi.cl e he y hy with h | h | h
            · exact .inl h
            · exact .inr (.inl h)
            · rcases List.mem_cons.1 h with h | h
              · rcases hin with h2 | h2
                · exact .inr (.inl (by rw [h]; exact h2))
                · exact .inl (h.trans h2)
              · exact .inr (.inr h)
          · rcases hi.has with h | h
            · exact .inl h
            · rcases List.mem_cons.1 h with h | h
              · rcases hin with h2 | h2
                · exact .inl (by rw [h]; exact h2)
                · omega
              · exact .inr h
          · have := hi.cnt
            simp only [lgs, twos] at this
            have : (if q = 2 then 1 else 0) ≤ lg q := by split <;> omega
            omega
        obtain ⟨done', h1, h2⟩ := ih m done r (by
          split at hw <;> omega) (by omega) (by split at hw <;> omega) (by omega) hi2
        refine ⟨done', h1, fun x0 x1 => ?_⟩
        simp only [prime_Build.L0, prime_Build.B0]
        rw [dT (by simp), aT (by simp), e0, edrop, aT (by simp; omega)]
        cases hc : mhas done q with
        | true => rw [cond_true]; exact h2 x0 x1
        | false =>
          rcases hin with h | h
          · rw [hc] at h; cases h
          · rw [cond_false, eT h]; exact h2 x0 x1
      · have hnd : mhas done q = false := by
          rw [← Bool.not_eq_true]
          exact fun h => hin (.inl h)
        have hne : q ≠ 2 := fun h => hin (.inr h)
        have h3 : 3 ≤ q := by omega
        have hql : q < 2147483648 := by omega
        obtain ⟨e1, hpl, _, hpt, hlen⟩ := pts_spec (q := q) (by omega) (by omega)
        obtain ⟨b1, b2⟩ := pts_len h3 hql
        obtain ⟨g1, g2⟩ := pts_lgs hq h3 hql
        have g3 := twos_le ((pts q).map (·.1))
        rw [if_neg hne] at hw
        have hset : mset done q (q, (rootN q : Int), pts q) = done ++ [((), q, prf q)] := mset_new _ _ _ hnd
        have hi2 : BInv p (mset done q (q, (rootN q : Int), pts q)) (r ++ (pts q).map (·.1)) := by
          rw [hset]
          have hh : ∀ z, mhas (done ++ [((), q, prf q)]) z = true ↔ (mhas done z = true ∨ z = q) := fun z => by
            rw [← hset, mhas_mset, Bool.or_eq_true, beq_iff_eq]
            exact ⟨fun h => h.elim (fun h => .inr h.symm) .inl, fun h => h.elim .inr fun h => .inl h.symm⟩
          refine ⟨?_, fun e he => ?_, fun z hz => ?_, fun e he y hy => ?_, fun z hz => ?_, ?_, ?_⟩
          · rw [List.map_append, List.nodup_append]
            refine ⟨hi.nd, by simp, fun a ha b hb => ?_⟩
            rw [List.map_cons, List.map_nil, List.mem_singleton] at hb
            rintro rfl
            obtain ⟨e, he, h⟩ := List.mem_map.1 ha
            have := mhas_iff.2 ⟨e, he, h⟩
            rw [hb, hnd] at this
            cases this
          · rcases List.mem_append.1 he with he | he
            · exact hi.val e he
            · rw [List.mem_singleton.1 he]; exact ⟨rfl, hq, h3, hqp⟩
          · rcases List.mem_append.1 hz with hz | hz
            · exact hi.lf z (List.mem_cons_of_mem _ hz)
            · obtain ⟨y, hy, rfl⟩ := List.mem_map.1 hz
              have := hpt y hy
              exact ⟨this.1, by omega⟩
          · rw [hh]
            rcases List.mem_append.1 he with he | he
            · rcases hi.cl e he y hy with h | h | h
              · exact .inl h
              · exact .inr (.inl (.inl h))
              · rcases List.mem_cons.1 h with h | h
                · exact .inr (.inl (.inr h))
                · exact .inr (.inr (List.mem_append_left _ h))
            · rw [List.mem_singleton.1 he] at hy
              exact .inr (.inr (List.mem_append_right _ (List.mem_map.2 ⟨y, hy, rfl⟩)))
          · have old : (z = p ∨ ∃ e ∈ done, ∃ y ∈ pts e.2.1, y.1 = z) → (z = p ∨ ∃ e ∈ done ++ [((), q, prf q)], ∃ y ∈ pts e.2.1, y.1 = z) := fun h => h.imp id fun ⟨e, h1, h2⟩ => ⟨e, List.mem_append_left _ h1, h2⟩
            rw [hh] at hz
            rcases hz with (h | h) | h
            · exact old (hi.nee z (.inl h))
            · exact old (hi.nee z (.inr (by rw [h]; exact List.mem_cons_self)))
            · rcases List.mem_append.1 h with h | h
              · exact old (hi.nee z (.inr (List.mem_cons_of_mem _ h)))
              · obtain ⟨y, hy, e⟩ := List.mem_map.1 h
                exact .inr ⟨((), q, prf q), List.mem_append_right _ (List.mem_singleton.2 rfl), y, hy, e⟩
          · rw [hh]
            rcases hi.has with h | h
            · exact .inl (.inl h)
            · rcases List.mem_cons.1 h with h | h
              · exact .inl (.inr h)
              · exact .inr (List.mem_append_left _ h)
          · have := hi.cnt
            simp only [lgs, twos] at this
            rw [if_neg hne] at this
            rw [lgs_append, twos_append, List.length_append, List.length_singleton]
            omega
        obtain ⟨done', h1, h2⟩ := ih m _ (r ++ (pts q).map (·.1)) (by rw [lgs_append, twos_append]; omega) (by omega) (by
          have : ∀ r : List Int, (∀ q ∈ r, 2 ≤ q) → r.length + twos r ≤ 2 * lgs r := by
            intro r
            induction r with
            | nil => intro _; simp [twos, lgs]
            | cons x r ih =>
              intro h
              have h1 := ih fun q hq => h q (List.mem_cons_of_mem _ hq)
              have h2 := lg_pos (h x List.mem_cons_self)
              simp only [List.length_cons, twos, lgs]
              split <;> omega
          have h4 := this ((pts q).map (·.1)) fun z hz => by
            obtain ⟨y, hy, rfl⟩ := List.mem_map.1 hz
            exact (hpt y hy).1.1
          rw [List.length_append]
          omega) (by rw [List.length_append, List.length_map]; omega) hi2
        refine ⟨done', h1, fun x0 x1 => ?_⟩
        simp only [prime_Build.L0, prime_Build.B0]
        rw [dT (by simp), aT (by simp), e0, edrop, aT (by simp; omega)]
        rw [hnd, cond_false, eF hne, wu_in (n := q - 1) (by omega) (by omega), parts_spec (by omega) (by omega), e1, nF rfl, proof_spec hq h3 hql (by omega) (by omega), Bool.not_true, cond_false]
        have h5 := build_l2 (k := k) (fun done2 left2 =>
                  bif (decide (0 ≤ (1 : Int)) && decide (1 ≤ (left2.length : Int))) then (prime_Build.L0 k x0 x1 m done2 ((left2.drop ((1 : Int).toNat)).take ((left2.length : Int).toNat - (1 : Int).toNat))) else none) (mset done q (q, (rootN q : Int), pts q)) (l := pts q) (by omega) (pts q).length k 0 (q :: r) (by omega) (by omega) (by rw [List.length_cons]; omega)
        rw [show ((0 : Nat) : Int) = 0 from rfl, List.drop_zero] at h5
        rw [h5]
        have edrop2 : ((q :: r ++ (pts q).map (·.1)).drop ((1 : Int).toNat)).take (((q :: r ++ (pts q).map (·.1)).length : Int).toNat - (1 : Int).toNat) = r ++ (pts q).map (·.1) := by
          show ((r ++ (pts q).map (·.1)).take _) = _
          rw [List.take_of_length_le]
          simp
          omega
        show (bif (decide (0 ≤ (1 : Int)) && decide (1 ≤ ((q :: r ++ (pts q).map (·.1)).length : Int))) then _ else none) = _
        rw [aT (by simp; omega), edrop2]
        exact h2 x0 x1
end Go.Proofs.Ytanpdkllnmeenaa.M
namespace Go.Proofs.Ytanpdkllnmeenaa.M
set_option linter.unusedVariables false
set_option maxRecDepth 100000
open Go Go.RowKit Go.Proofs Go.Proofs.Ytanpdkllnmeenaa.Am Fp
abbrev ky : Int × Int × List (Int × Int) → Int := fun x => x.1
structure BList (p : Int) (l : List (Int × Int × List (Int × Int))) : Prop where
  up : l.Pairwise (fun a b => a.1 < b.1)
  val : ∀ x ∈ l, x = prf x.1 ∧ PrI x.1 ∧ 3 ≤ x.1 ∧ x.1 ≤ p
  cl : ∀ x ∈ l, ∀ y ∈ pts x.1, y.1 = 2 ∨ ∃ z ∈ l, z.1 = y.1
  nee : ∀ x ∈ l, x.1 = p ∨ ∃ z ∈ l, ∃ y ∈ pts z.1, y.1 = x.1
  has : ∃ x ∈ l, x.1 = p
  cnt : l.length ≤ lg p
theorem sort_call {l : List (Int × Int × List (Int × Int))} (hn : (l.map ky).Nodup) (hl : l.length < 1099511627776) {k : Nat} (hk : 1 ≤ k) {R : Type} (ret : List (Int × Int × List (Int × Int)) → Option R) : slices_SortFunc.f k l ret = ret (srtK ky l) := by
  obtain ⟨k, rfl⟩ : ∃ m, k = m + 1 := ⟨k - 1, by omega⟩
  have : sortL ky l = some (srtK ky l) := by unfold sortL; rw [if_pos ⟨hn, hl⟩]
  show primK (sortL ky) (k + 1) l ret = _
  unfold primK
  simp only [this]
theorem srt_perm {l l' : List (Int × Int × List (Int × Int))} (h : l.Perm l') (hn : (l'.map ky).Nodup) : srtK ky l = srtK ky l' := by
  have hn2 : (l.map ky).Nodup := ((h.map ky).nodup_iff).2 hn
  have n1 := ((srtK_perm ky l).map ky).nodup_iff.2 hn2
  have n2 := ((srtK_perm ky l').map ky).nodup_iff.2 hn
  exact sorted_eq ky ((srtK_perm ky l).trans (h.trans (srtK_perm ky l').symm)) (nodup_pw ky n1 (srtK_sorted ky l)) (nodup_pw ky n2 (srtK_sorted ky l'))
theorem lg_24 {p : Int} (hp : p < 16777216) (h1 : 1 ≤ p) : lg p ≤ 23 := by
  apply Classical.byContradiction
  intro h
  have h1 := lg_le h1
  have : (2 : Int) ^ 24 ≤ 2 ^ lg p := by
    obtain ⟨t, ht⟩ := Nat.exists_eq_add_of_le (show 24 ≤ lg p by omega)
    rw [ht, Int.pow_add]
    have h0 : (0 : Int) < 2 ^ t := Int.pow_pos (by omega)
    have : (2 : Int) ^ 24 * 1 ≤ 2 ^ 24 * 2 ^ t := Int.mul_le_mul_of_nonneg_left (by omega) (by decide)
    omega
  have e : (2 : Int) ^ 24 = 16777216 := by decide
  omega
theorem build_prime {p : Int} (hp : PrI p) (h3 : 3 ≤ p) (hp2 : p < 16777216) {k : Nat} (hk : 16777400 ≤ k) :
    ∃ l, BList p l ∧ ∀ {R : Type} (ret : List (Int × Int × List (Int × Int)) → Int → Option R), prime_Build.f k p ret = ret l 0 := by
  obtain ⟨k, rfl⟩ : ∃ m, k = m + 1 := ⟨k - 1, by omega⟩
  have h24 := lg_24 hp2 (by omega)
  have hinit : BInv p [] [p] := by
    refine ⟨by simp, fun e he => (by cases he), fun q hq => ?_, fun e he => (by cases he), fun q hq => ?_, .inr (by simp), ?_⟩
    · rw [List.mem_singleton] at hq; subst hq; exact ⟨hp, Int.le_refl _⟩
    · rcases hq with h | h
      · simp [mhas] at h
      · rw [List.mem_singleton] at h; exact .inl h
    · simp only [lgs, twos, List.length_nil]
      omega
  obtain ⟨done, hd, hL⟩ := build_l0 h3 hp2 (k := k) (by omega) (2 * lg p) k [] [p] (by simp only [lgs, twos]; omega) (by omega) (by have := lg_pos (q := p) (by omega); simp; omega) (by simp; omega) hinit
  have hcnt := hd.cnt
  simp only [lgs, twos] at hcnt
  have hkeys : (done.map (·.2.2)).map ky = done.map (·.2.1) := by
    rw [List.map_map]
    apply List.map_congr_left
    intro e he
    show e.2.2.1 = e.2.1
    rw [(hd.val e he).1]; rfl
  have hnd : ((done.map (·.2.2)).map ky).Nodup := by rw [hkeys]; exact hd.nd
  have hmem : ∀ x, x ∈ srtK ky (done.map (·.2.2)) ↔ ∃ e ∈ done, e.2.2 = x := fun x => by
    rw [(srtK_perm ky _).mem_iff, List.mem_map]
  have hasm : ∀ z, mhas done z = true → ∃ x ∈ srtK ky (done.map (·.2.2)), x.1 = z := fun z hz => by
    obtain ⟨e, he, h⟩ := mhas_iff.1 hz
    exact ⟨e.2.2, (hmem _).2 ⟨e, he, rfl⟩, by rw [(hd.val e he).1, ← h]; rfl⟩
  have hlen : (srtK ky (done.map (·.2.2))).length = done.length := by rw [(srtK_perm ky _).length_eq, List.length_map]
  refine ⟨srtK ky (done.map (·.2.2)), ⟨?_, fun x hx => ?_, fun x hx y hy => ?_, fun x hx => ?_, ?_, by rw [hlen]; omega⟩, fun {R} ret => ?_⟩
  · exact nodup_pw ky (((srtK_perm ky _).map ky).nodup_iff.2 hnd) (srtK_sorted ky _)
  · obtain ⟨e, he, rfl⟩ := (hmem x).1 hx
    obtain ⟨a1, a2, a3, a4⟩ := hd.val e he
    have : e.2.2.1 = e.2.1 := by rw [a1]; rfl
    rw [this]
    exact ⟨a1, a2, a3, a4⟩
  · obtain ⟨e, he, rfl⟩ := (hmem x).1 hx
    have : e.2.2.1 = e.2.1 := by rw [(hd.val e he).1]; rfl
    rw [this] at hy
    rcases hd.cl e he y hy with h | h | h
    · exact .inl h
    · exact .inr (hasm _ h)
    · cases h
  · obtain ⟨e, he, rfl⟩ := (hmem x).1 hx
    have : e.2.2.1 = e.2.1 := by rw [(hd.val e he).1]; rfl
    rw [this]
    rcases hd.nee e.2.1 (.inl (mhas_iff.2 ⟨e, he, rfl⟩)) with h | ⟨e', he', y, hy, h⟩
    · exact .inl h
    · right
      refine ⟨e'.2.2, (hmem _).2 ⟨e', he', rfl⟩, y, ?_, h⟩
      have : e'.2.2.1 = e'.2.1 := by rw [(hd.val e' he').1]; rfl
      rw [this]; exact hy
  · rcases hd.has with h | h
    · exact hasm _ h
    · cases h
  · unfold prime_Build.f
    have e : (fun L => prime_Build.r (k + 1) p (fun y0 y1 => L (prime_Build.rs.enc ((y0, ()), (y1, ()), ())))) = fun (L : AV → Option AV) => L (prime_Build.rs.enc ((srtK ky (done.map (·.2.2)), ()), (0, ()), ())) := funext fun L => by
      rw [prime_Build.r, dF (by omega), dF (by omega), hL]
      have h2 : ∀ l, l.Perm (done.map (·.2.2)) → slices_SortFunc.f k l (fun l2 => L (prime_Build.rs.enc ((l2, ()), (0, ()), ()))) = L (prime_Build.rs.enc ((srtK ky (done.map (·.2.2)), ()), (0, ()), ())) := fun l hl => by
        rw [sort_call (((hl.map ky).nodup_iff).2 hnd) (by rw [hl.length_eq, List.length_map]; omega) (by omega), srt_perm hl hnd]
      rw [l4_all _ done (by omega) (fun l l' h1 h3 => by rw [h2 l h1, h2 l' h3]) (by omega)]
      exact h2 _ (List.Perm.refl _)
    rw [e, nd_eq]
theorem build_two {k : Nat} (hk : 10 ≤ k) {R : Type} (ret : List (Int × Int × List (Int × Int)) → Int → Option R) : prime_Build.f k 2 ret = ret [] 0 := by
  obtain ⟨k, rfl⟩ : ∃ m, k = m + 3 := ⟨k - 3, by omega⟩
  unfold prime_Build.f
  have e : (fun L => prime_Build.r (k + 3) 2 (fun y0 y1 => L (prime_Build.rs.enc ((y0, ()), (y1, ()), ())))) = fun (L : AV → Option AV) => L (prime_Build.rs.enc (([], ()), (0, ()), ())) := funext fun L => by
    rw [prime_Build.r, dF (by omega), dF (by omega)]
    simp only [prime_Build.L0, prime_Build.B0]
    rw [dT (by simp), aT (by simp)]
    show (bif mhas [] ((2 : Int)) then _ else _) = _
    rw [show mhas ([] : Dn) 2 = false from rfl, cond_false]
    show (bif ((2 : Int) == 2) then _ else _) = _
    rw [eT rfl, aT (by simp)]
    show (bif (decide ((([] : List Int).length : Int) > 0)) then _ else _) = _
    rw [dF (by simp)]
    have h2 : ∀ l, l.Perm ((([] : Dn)).map (·.2.2)) → slices_SortFunc.f (k + 2) l (fun l2 => L (prime_Build.rs.enc ((l2, ()), (0, ()), ()))) = L (prime_Build.rs.enc (([], ()), (0, ()), ())) := fun l hl => by
      have : l = [] := List.Perm.eq_nil hl
      subst this
      rw [sort_call (by simp) (by simp) (by omega)]; rfl
    rw [l4_all _ [] (by simp) (fun l l' h1 h3 => by rw [h2 l h1, h2 l' h3]) (by simp)]
    exact h2 _ (List.Perm.refl _)
  rw [e, nd_eq]
theorem build_none {p : Int} (hp : ¬ PrI p) (h3 : 3 ≤ p) (hp2 : p < 16777216) {k : Nat} (hk : 16777400 ≤ k) {R : Type} (ret : List (Int × Int × List (Int × Int)) → Int → Option R) : prime_Build.f k p ret = ret [] 6 := by
  obtain ⟨k, rfl⟩ : ∃ m, k = m + 1 := ⟨k - 1, by omega⟩
  obtain ⟨e1, _⟩ := pts_spec (q := p) (by omega) (by omega)
  unfold prime_Build.f
  have e : (fun L => prime_Build.r (k + 1) p (fun y0 y1 => L (prime_Build.rs.enc ((y0, ()), (y1, ()), ())))) = fun (L : AV → Option AV) => L (prime_Build.rs.enc (([], ()), (6, ()), ())) := funext fun L => by
    rw [prime_Build.r, dF (by omega), dF (by omega)]
    obtain ⟨j, hj⟩ : ∃ j, k = j + 1 := ⟨k - 1, by omega⟩
    have key : ∀ (x0 : Int → List (Int × Int × List (Int × Int)) → Option AV) (x1 : Dn → Option AV), prime_Build.L0 k x0 x1 (j + 1) [] [p] = x0 6 [] := fun x0 x1 => by
      simp only [prime_Build.L0, prime_Build.B0]
      rw [dT (by simp), aT (by simp)]
      show (bif mhas [] p then _ else bif p == 2 then _ else _) = _
      rw [show mhas ([] : Dn) p = false from rfl, cond_false, eF (by omega)]
      show prime_Parts.f k (IntKind.wrap .u64 (p - 1)) _ = _
      rw [wu_in (n := p - 1) (by omega) (by omega), parts_spec (by omega) (by omega), e1, nF rfl]
      show prime_proof.f k p (pts p) _ = _
      rw [proof_none hp h3 (by omega) (by omega) (by omega)]
      rfl
    rw [← hj] at key
    rw [key]
  rw [e, nd_eq]
theorem build_arg {p : Int} (h : p < 2) {k : Nat} (hk : 1 ≤ k) {R : Type} (ret : List (Int × Int × List (Int × Int)) → Int → Option R) : prime_Build.f k p ret = ret [] 1 := by
  obtain ⟨k, rfl⟩ : ∃ m, k = m + 1 := ⟨k - 1, by omega⟩
  unfold prime_Build.f
  have e : (fun L => prime_Build.r (k + 1) p (fun y0 y1 => L (prime_Build.rs.enc ((y0, ()), (y1, ()), ())))) = fun (L : AV → Option AV) => L (prime_Build.rs.enc (([], ()), (1, ()), ())) := funext fun L => by
    rw [prime_Build.r, dT h]
  rw [e, nd_eq]
/-- What is built shows all it has. -/
theorem known_mem : ∀ (a : List (Int × Int × List (Int × Int))) (m : List (Unit × Int × Bool)) (y : Int), mget false m y = true ∨ (∃ z ∈ a, z.1 = y) → mget false (knownM a m) y = true
  | [], m, y, h => by
    rcases h with h | ⟨z, hz, _⟩
    · exact h
    · cases hz
  | x :: a, m, y, h => by
    rw [knownM]
    refine known_mem a _ y ?_
    rw [mget_mset]
    by_cases e : x.1 = y
    · left; rw [if_pos e]
    · rcases h with h | ⟨z, hz, h⟩
      · left; rw [if_neg e]; exact h
      · rcases List.mem_cons.1 hz with rfl | hz
        · exact absurd h e
        · exact .inr ⟨z, hz, h⟩
theorem blist_first {p : Int} {l : List (Int × Int × List (Int × Int))} (h : BList p l) (hp2 : p < 16777216) (hl : l.length ≤ 100) : firstN l = l.length := by
  have key : ∀ (r a : List (Int × Int × List (Int × Int))) (last : Int), l = a ++ r → (∀ x ∈ r, a = [] ∨ last < x.1) → firstFrom a.length last r (knownM a (mset [] 2 true)) = a.length + r.length := by
    intro r
    induction r with
    | nil => intro a last _ _; rw [firstFrom]; rfl
    | cons x r ih =>
      intro a last e hlast
      have hx : x ∈ l := by rw [e]; simp
      obtain ⟨a1, a2, a3, a4⟩ := h.val x hx
      have hup := h.up
      rw [e, List.pairwise_append, List.pairwise_cons] at hup
      obtain ⟨_, ⟨hup2, _⟩, hup3⟩ := hup
      obtain ⟨r1, r2, r3, r4⟩ := root_facts a2 a3 (by omega)
      obtain ⟨_, _, _, hpt, _⟩ := pts_spec (q := x.1) (by omega) (by omega)
      have hsh : showsB (knownM a (mset [] 2 true)) x = true := by
        rw [a1]
        unfold prf
        rw [shows_good a2 a3 (by omega) r1 r2 fun y hy => ?_]
        · exact r3
        · refine known_mem _ _ _ ?_
          rcases h.cl x hx y hy with hy2 | ⟨z, hz, hzy⟩
          · left; rw [hy2]; rfl
          · right
            have hyx := (hpt y hy).2.2.2.1
            rw [e] at hz
            rcases List.mem_append.1 hz with hz | hz
            · exact ⟨z, hz, hzy⟩
            · exfalso
              rcases List.mem_cons.1 hz with rfl | hz
              · omega
              · have := hup2 z hz; omega
      have hlen : a.length < 200 := by
        have := congrArg List.length e
        rw [List.length_append, List.length_cons] at this
        omega
      have hcond : (a.length = 0 ∨ last < x.1) := by
        rcases hlast x List.mem_cons_self with h | h
        · left; rw [h]; rfl
        · exact .inr h
      rw [firstFrom, decide_eq_true hlen, decide_eq_true hcond, hsh, Bool.true_and, Bool.true_and, cond_true]
      have hk : mset (knownM a (mset [] 2 true)) x.1 true = knownM (a ++ [x]) (mset [] 2 true) := by
        have : ∀ (a : List (Int × Int × List (Int × Int))) (m : List (Unit × Int × Bool)), knownM (a ++ [x]) m = mset (knownM a m) x.1 true := by
          intro a
          induction a with
          | nil => intro m; rfl
          | cons b a ih => intro m; rw [List.cons_append, knownM, knownM, ih]
        rw [this]
      have := ih (a ++ [x]) x.1 (by rw [e]; simp) (fun z hz => .inr (hup2 z hz))
      rw [List.length_append, List.length_singleton] at this
      rw [hk, this, List.length_cons]
      omega
  have := key l [] 0 rfl (fun x _ => .inl rfl)
  rw [List.length_nil, Nat.zero_add] at this
  exact this
end Go.Proofs.Ytanpdkllnmeenaa.M
namespace Go.Proofs.Ytanpdkllnmeenaa.M
set_option linter.unusedVariables false
set_option maxRecDepth 100000
open Go Go.RowKit Go.Proofs Go.Proofs.Ytanpdkllnmeenaa.Am Fp
theorem root_conds {q : Int} (hp : PrI q) (h3 : 3 ≤ q) (hq : q < 2147483648) : (rootN q) ^ (q.toNat - 1) % q.toNat = 1 ∧ ∀ r, Pr r → r ∣ q.toNat - 1 → (rootN q) ^ ((q.toNat - 1) / r) % q.toNat ≠ 1 := by
  obtain ⟨r1, r2, r3, r4⟩ := root_facts hp h3 hq
  obtain ⟨_, _, _, hpt, _⟩ := pts_spec (q := q) (by omega) (by omega)
  have h1 := shows_good hp h3 hq r1 r2 (m := knownP (pts q) []) fun y hy => by
    rw [knownP_get, show (pts q).any (fun x => x.1 == y.1) = true from List.any_eq_true.2 ⟨y, hy, beq_self_eq_true _⟩, Bool.true_or]
  rw [r3, showsB_K] at h1
  have := shows_root (fun y hy => by
    rw [knownP_get] at hy
    simp only [mget, Bool.or_false] at hy
    obtain ⟨x, hx, e⟩ := List.any_eq_true.1 hy
    rw [← beq_iff_eq.1 e]
    exact (hpt x hx).1) h1
  have e : ((rootN q : Nat) : Int).toNat = rootN q := Int.toNat_natCast _
  simp only [e] at this
  exact this.2
theorem pow_inj {g N : Nat} (hN : 2 ≤ N) (h1 : g ^ (N - 1) % N = 1) (hq : ∀ q, Pr q → q ∣ N - 1 → g ^ ((N - 1) / q) % N ≠ 1) {t i : Nat} (hti : t < i) (hi : i < N - 1) : g ^ t % N ≠ g ^ i % N := by
  intro h
  have h2 : g ^ (i - t) % N = 1 := by
    have e1 : (g ^ (N - 1 - t) * g ^ i) % N = 1 := by
      rw [Nat.mul_mod, ← h, ← Nat.mul_mod, ← Nat.pow_add, show N - 1 - t + t = N - 1 by omega, h1]
    rw [← Nat.pow_add, show N - 1 - t + i = (N - 1) + (i - t) by omega, Nat.pow_add, Nat.mul_mod, h1, Nat.one_mul, Nat.mod_mod] at e1
    exact e1
  have := root_inj hN h1 hq (i - t) (by omega) h2
  omega
theorem powers_l0 {q : Int} (hp : PrI q) (h3 : 3 ≤ q) (hq : q < 3000) {l : List Pf} (hl0 : 0 < l.length) (hl : l.length < 1000) (hlast : l.getD (l.length - 1) (0, 0, []) = prf q) {k : Nat} (hk : 20 ≤ k) {R : Type} (x0 : Bool → Option R) (x1 : Int → Option R) (d : Nat) : ∀ (m i : Nat) (seen : List Bool), i + d = q.toNat - 1 → d < m → seen.length = 3000 → (∀ j, j < 3000 → (seen.getD j false = true ↔ ∃ t, t < i ∧ rootN q ^ t % q.toNat = j)) →
    affidavitlaw02_PrimePowers.L0 k x0 x1 m q ((rootN q ^ i % q.toNat : Nat) : Int) i l seen = x1 1 := by
  obtain ⟨r1, r2, r3, r4⟩ := root_facts hp h3 (by omega)
  obtain ⟨c1, c2⟩ := root_conds hp h3 (by omega)
  have hN : 2 ≤ q.toNat := by omega
  have hlt : ∀ i, rootN q ^ i % q.toNat < q.toNat := fun i => Nat.mod_lt _ (by omega)
  induction d with
  | zero =>
    intro m i seen hi hm hs hsn
    obtain ⟨m, rfl⟩ : ∃ j, m = j + 1 := ⟨m - 1, by omega⟩
    have e : i = q.toNat - 1 := by omega
    simp only [affidavitlaw02_PrimePowers.L0, affidavitlaw02_PrimePowers.B0]
    rw [wu_in (n := (i : Int) + 1) (by omega) (by omega), dF (by omega), e, c1]
    rfl
  | succ d ih =>
    intro m i seen hi hm hs hsn
    obtain ⟨m, rfl⟩ : ∃ j, m = j + 1 := ⟨m - 1, by omega⟩
    have hl1 := hlt i
    generalize hX : rootN q ^ i % q.toNat = X at *
    have hX0 : X ≠ 0 := by
      intro h0
      have : rootN q ^ (q.toNat - 1) % q.toNat = 0 := by
        rw [show q.toNat - 1 = i + (q.toNat - 1 - i) by omega, Nat.pow_add, Nat.mul_mod, hX, h0, Nat.zero_mul, Nat.zero_mod]
      omega
    have hnot : seen.getD X false = false := by
      rw [← Bool.not_eq_true, hsn X (by omega)]
      rintro ⟨t, ht, e⟩
      exact pow_inj hN c1 c2 ht (by omega) (by rw [e, hX])
    have hstep : ((X : Int) * ((rootN q : Nat) : Int)) % q = ((rootN q ^ (i + 1) % q.toNat : Nat) : Int) := by
      rw [Nat.pow_succ, ← Nat.mod_mul_mod, hX, Int.natCast_emod, Int.natCast_mul, Int.toNat_of_nonneg (by omega)]
    simp only [affidavitlaw02_PrimePowers.L0, affidavitlaw02_PrimePowers.B0]
    rw [wu_in (n := (i : Int) + 1) (by omega) (by omega), dT (by omega), eF (by omega), dF (by omega)]
    have hchk : (decide (0 ≤ (X : Int)) && (decide ((X : Int) < (seen.length : Int)) && decide ((X : Int) < 3000))) = true := by
      simp only [Bool.and_eq_true, decide_eq_true_eq]; omega
    rw [hchk, cond_true, Int.toNat_natCast, hnot, cond_false, cond_true, ixm (by omega) (by omega), aT (by omega), Int.toNat_natCast, hlast]
    show field_Mul.f k q X ((rootN q : Nat) : Int) _ = _
    rw [fMul_spec (by omega) (by omega) (by omega) (by omega) (by omega) r2 (by omega), nF rfl, hstep, show ((i : Int) + 1) = ((i + 1 : Nat) : Int) by omega]
    refine ih m (i + 1) _ (by omega) (by omega) (by rw [List.length_set]; exact hs) (fun j hj => ?_)
    rw [List.getD_eq_getElem?_getD, List.getElem?_set]
    by_cases c : X = j
    · rw [if_pos c, if_pos (by omega)]
      simp only [Option.getD_some, true_iff]
      exact ⟨i, by omega, by rw [hX, c]⟩
    · rw [if_neg c, ← List.getD_eq_getElem?_getD, hsn j hj]
      constructor
      · rintro ⟨t, ht, e⟩; exact ⟨t, by omega, e⟩
      · rintro ⟨t, ht, e⟩
        by_cases h : t = i
        · subst h; rw [hX] at e; exact absurd e c
        · exact ⟨t, by omega, e⟩
theorem blist_last {p : Int} {l : List Pf} (h : BList p l) : 0 < l.length ∧ l.getD (l.length - 1) (0, 0, []) = prf p := by
  obtain ⟨x, hx, hxp⟩ := h.has
  have hl := List.length_pos_of_mem hx
  refine ⟨hl, ?_⟩
  have hm := getD_mem (l := l) (i := l.length - 1) (by omega) (0, 0, [])
  obtain ⟨a1, _, _, a4⟩ := h.val _ hm
  obtain ⟨j, hj, e⟩ := List.mem_iff_getElem.1 hx
  have hge : l.getD (l.length - 1) (0, 0, []) = l[l.length - 1]'(by omega) := by
    rw [List.getD_eq_getElem?_getD, List.getElem?_eq_getElem (by omega)]; rfl
  have : (l.getD (l.length - 1) (0, 0, [])).1 = p := by
    by_cases c : j = l.length - 1
    · subst c
      rw [hge, e, hxp]
    · have := List.pairwise_iff_getElem.1 h.up j (l.length - 1) hj (by omega) (by omega)
      rw [e, hxp] at this
      rw [hge] at a4 ⊢
      omega
  rw [a1, this]
theorem primePowers_true {p : Int} (h0 : 0 ≤ p) (h1 : p < 18446744073709551616) {R : Type} (ret : Bool → Option R) : affidavitlaw02_PrimePowers.f 16777501 p ret = ret true := by
  rw [show (16777501 : Nat) = 16777500 + 1 from rfl, affidavitlaw02_PrimePowers.f, awake_spec (by omega), Bool.not_true, cond_false, nT (by omega), Int.tmod_eq_emod_of_nonneg h0]
  have a0 : 0 ≤ p % 3000 := Int.emod_nonneg _ (by omega)
  have a1 : p % 3000 < 3000 := Int.emod_lt_of_pos _ (by omega)
  generalize p % 3000 = q at a0 a1 ⊢
  by_cases c1 : q < 2
  · rw [build_arg c1 (by omega), nT (by omega)]
  · by_cases c2 : q = 2
    · subst c2
      rw [build_two (by omega), nF rfl, eT rfl]
    · by_cases hp : PrI q
      · obtain ⟨l, hl, hb⟩ := build_prime hp (by omega) (by omega) (k := 16777500) (by omega)
        obtain ⟨b1, b2⟩ := blist_last hl
        have := hl.cnt
        have := lg_24 (p := q) (by omega) (by omega)
        rw [hb, nF rfl, eF c2, eF (by omega)]
        have := powers_l0 hp (by omega) a1 b1 (by omega) b2 (k := 16777500) (by omega) (fun t2 => ret t2) (fun x1 => ret (x1 == 1)) (q.toNat - 1) 16777500 0 (List.replicate 3000 false) (by omega) (by omega) (by simp) (fun j hj => by
          rw [List.getD_eq_getElem?_getD, List.getElem?_replicate, if_pos hj]
          simp)
        rw [Nat.pow_zero, Nat.mod_eq_of_lt (by omega)] at this
        exact this
      · rw [build_none hp (by omega) (by omega) (by omega), nT (by omega)]
end Go.Proofs.Ytanpdkllnmeenaa.M
namespace Go.Proofs.Ytanpdkllnmeenaa.M
set_option linter.unusedVariables false
set_option maxRecDepth 100000
open Go Go.RowKit Go.Proofs Go.Proofs.Ytanpdkllnmeenaa.Am Fp
theorem builds_l4 {k : Nat} {R : Type} (x0 : Int → Int → Bool → Int → List Pf → Option R) (p : Int) {l : List Pf} (hl : l.length < 281474976710656) {i j : Nat} (hi : i < l.length) (hj : j < l.length) (hp : (l.getD j (0, 0, [])).2.2.length < 281474976710656) (d : Nat) : ∀ (m n : Nat) (need : Bool), n + d = (l.getD j (0, 0, [])).2.2.length → d < m →
    affidavitlaw02_PrimeBuilds.L4 k x0 m p i need j n l = x0 p i (need || ((l.getD j (0, 0, [])).2.2.drop n).any (fun y => y.1 == (l.getD i (0, 0, [])).1)) j l := by
  induction d with
  | zero =>
    intro m n need hn hm
    obtain ⟨m, rfl⟩ : ∃ j, m = j + 1 := ⟨m - 1, by omega⟩
    simp only [affidavitlaw02_PrimeBuilds.L4, affidavitlaw02_PrimeBuilds.B4]
    rw [aT (by omega), Int.toNat_natCast, dF (by omega), List.drop_of_length_le (by omega), List.any_nil, Bool.or_false]
  | succ d ih =>
    intro m n need hn hm
    obtain ⟨m, rfl⟩ : ∃ j, m = j + 1 := ⟨m - 1, by omega⟩
    simp only [affidavitlaw02_PrimeBuilds.L4, affidavitlaw02_PrimeBuilds.B4]
    rw [aT (by omega), Int.toNat_natCast, dT (by omega), drop_at (i := n) (by omega) (0, 0), List.any_cons]
    cases need with
    | true => rw [cond_true, ix (by omega), ih m (n + 1) _ (by omega) (by omega), Bool.true_or, Bool.true_or]
    | false =>
      rw [cond_false, aT (by omega), aT (by omega), aT (by omega), Int.toNat_natCast, Int.toNat_natCast, ix (by omega), ih m (n + 1) _ (by omega) (by omega), Bool.false_or]
theorem builds_l2 {k : Nat} {R : Type} (x0 : Int → Int → Bool → List Pf → Option R) (p : Int) {l : List Pf} (hl : l.length < 281474976710656) {i : Nat} (hi : i < l.length) (hp : ∀ x ∈ l, x.2.2.length < k ∧ x.2.2.length < 281474976710656) (d : Nat) : ∀ (m j : Nat) (need : Bool), j + d = l.length → d < m →
    affidavitlaw02_PrimeBuilds.L2 k x0 m p i need j l = x0 p i (need || (l.drop j).any (fun z => z.2.2.any (fun y => y.1 == (l.getD i (0, 0, [])).1))) l := by
  induction d with
  | zero =>
    intro m j need hn hm
    obtain ⟨m, rfl⟩ : ∃ j, m = j + 1 := ⟨m - 1, by omega⟩
    simp only [affidavitlaw02_PrimeBuilds.L2, affidavitlaw02_PrimeBuilds.B2]
    rw [dF (by omega), List.drop_of_length_le (by omega), List.any_nil, Bool.or_false]
  | succ d ih =>
    intro m j need hn hm
    obtain ⟨m, rfl⟩ : ∃ j, m = j + 1 := ⟨m - 1, by omega⟩
    have hpj := hp _ (getD_mem (l := l) (i := j) (by omega) (0, 0, []))
    simp only [affidavitlaw02_PrimeBuilds.L2, affidavitlaw02_PrimeBuilds.B2]
    have h4 := builds_l4 (k := k) (fun p4 i3 need2 j2 l5 => affidavitlaw02_PrimeBuilds.L2 k x0 m p4 i3 need2 (IntKind.wrap .i64 (j2 + 1)) l5) p hl hi (j := j) (by omega) hpj.2 (l.getD j (0, 0, [])).2.2.length k 0 need (by omega) hpj.1
    rw [show ((0 : Nat) : Int) = 0 from rfl, List.drop_zero] at h4
    rw [dT (by omega), h4, ix (by omega), ih m (j + 1) _ (by omega) (by omega), drop_at (i := j) (by omega) (0, 0, []), List.any_cons, Bool.or_assoc]
theorem builds_l0 {q : Int} (hq : q < 16777216) {l : List Pf} (hb : BList q l) (hl : l.length ≤ 100) {k : Nat} (hk : 16777400 ≤ k) {R : Type} (x0 : Bool → Option R) (x1 : Int → List Pf → Option R) (d : Nat) : ∀ (m i : Nat), i + d = l.length → d < m →
    affidavitlaw02_PrimeBuilds.L0 k x0 x1 m q i l = x1 q l := by
  induction d with
  | zero =>
    intro m i hi hm
    obtain ⟨m, rfl⟩ : ∃ j, m = j + 1 := ⟨m - 1, by omega⟩
    simp only [affidavitlaw02_PrimeBuilds.L0, affidavitlaw02_PrimeBuilds.B0]
    rw [dF (by omega)]
  | succ d ih =>
    intro m i hi hm
    obtain ⟨m, rfl⟩ : ∃ j, m = j + 1 := ⟨m - 1, by omega⟩
    have hm1 := getD_mem (l := l) (i := i) (by omega) (0, 0, [])
    obtain ⟨a1, a2, a3, a4⟩ := hb.val _ hm1
    obtain ⟨e1, _, _, hpt, _⟩ := pts_spec (q := (l.getD i (0, 0, [])).1) (by omega) (by omega)
    obtain ⟨b1, b2⟩ := pts_len a3 (by omega)
    have hparts : ∀ x ∈ l, x.2.2.length < k ∧ x.2.2.length < 281474976710656 := fun x hx => by
      obtain ⟨c1, c2, c3, c4⟩ := hb.val x hx
      have := (pts_len c3 (by omega)).2
      have e : x.2.2 = pts x.1 := by rw [c1]; rfl
      rw [e]
      omega
    have hneed : ((l.getD i (0, 0, [])).1 == q || (l.drop (i + 1)).any (fun z => z.2.2.any (fun y => y.1 == (l.getD i (0, 0, [])).1))) = true := by
      rcases hb.nee _ hm1 with h | ⟨z, hz, y, hy, h⟩
      · rw [h, beq_self_eq_true, Bool.true_or]
      · rw [Bool.or_eq_true]
        right
        obtain ⟨c1, c2, c3, c4⟩ := hb.val z hz
        obtain ⟨_, _, _, hptz, _⟩ := pts_spec (q := z.1) (by omega) (by omega)
        have hyz := (hptz y hy).2.2.2.1
        obtain ⟨j, hj, e⟩ := List.mem_iff_getElem.1 hz
        have hge : l.getD i (0, 0, []) = l[i]'(by omega) := by
          rw [List.getD_eq_getElem?_getD, List.getElem?_eq_getElem (by omega)]; rfl
        have hij : i < j := by
          apply Classical.byContradiction
          intro hc
          by_cases h2 : j = i
          · subst h2
            rw [hge, e] at h
            omega
          · have := List.pairwise_iff_getElem.1 hb.up j i hj (by omega) (by omega)
            rw [e, ← hge] at this
            omega
        rw [List.any_eq_true]
        refine ⟨z, ?_, ?_⟩
        · rw [← e]
          rw [List.mem_iff_getElem]
          refine ⟨j - (i + 1), by rw [List.length_drop]; omega, ?_⟩
          rw [List.getElem_drop]
          congr 1
          omega
        · rw [List.any_eq_true]
          refine ⟨y, ?_, beq_iff_eq.2 h⟩
          rw [c1]; exact hy
    generalize hX : l.getD i (0, 0, []) = X at *
    have x22 : X.2.2 = pts X.1 := by rw [a1]; rfl
    have x21 : X.2.1 = (rootN X.1 : Int) := by rw [a1]; rfl
    simp only [affidavitlaw02_PrimeBuilds.L0, affidavitlaw02_PrimeBuilds.B0]
    rw [dT (by omega), aT (by omega), Int.toNat_natCast, hX, wu_in (n := X.1 - 1) (by omega) (by omega), rparts_spec (by omega) (by omega), e1, aT (by omega), x22, same_spec (by omega) (by omega), Bool.not_true, cond_false, aT (by omega), aT (by omega), root_spec a2 a3 (by omega) (by omega) (by omega), x21, nF rfl, aT (by omega), ix (by omega)]
    have h2 := builds_l2 (k := k) (fun p5 i4 need3 l6 => bif (!need3) then (x0 false) else (affidavitlaw02_PrimeBuilds.L0 k x0 x1 m p5 (IntKind.wrap .i64 (i4 + 1)) l6)) q (l := l) (by omega) (i := i) (by omega) hparts d k (i + 1) (X.1 == q) (by omega) (by omega)
    rw [hX] at h2
    rw [h2, hneed, Bool.not_true, cond_false, ix (by omega), ih m (i + 1) (by omega) (by omega)]
theorem builds_nil {k m : Nat} (hm : 1 ≤ m) {R : Type} (x0 : Bool → Option R) (x1 : Int → List Pf → Option R) (q : Int) : affidavitlaw02_PrimeBuilds.L0 k x0 x1 m q 0 [] = x1 q [] := by
  obtain ⟨m, rfl⟩ : ∃ j, m = j + 1 := ⟨m - 1, by omega⟩
  simp only [affidavitlaw02_PrimeBuilds.L0, affidavitlaw02_PrimeBuilds.B0]
  rw [dF (by simp)]
theorem primeBuilds_true {p : Int} (h0 : 0 ≤ p) {R : Type} (ret : Bool → Option R) : affidavitlaw02_PrimeBuilds.f 16777501 p ret = ret true := by
  rw [show (16777501 : Nat) = 16777500 + 1 from rfl, affidavitlaw02_PrimeBuilds.f, awake_spec (by omega), Bool.not_true, cond_false, nT (by omega), Int.tmod_eq_emod_of_nonneg h0]
  have a0 : 0 ≤ p % 16777216 := Int.emod_nonneg _ (by omega)
  have a1 : p % 16777216 < 16777216 := Int.emod_lt_of_pos _ (by omega)
  generalize p % 16777216 = q at a0 a1 ⊢
  by_cases c1 : q < 2
  · rw [build_arg c1 (by omega), dT c1, eT rfl]; rfl
  · by_cases c2 : q = 2
    · subst c2
      rw [build_two (by omega), dF (by omega), (is_spec (by omega) (by omega) (by omega) _).1 (isB_pr.2 two_prime)]
      show (bif (!((true) == true)) then _ else _) = _
      rw [show (!((true) == true)) = false from rfl, cond_false, nF rfl, shows2_spec _ (by simp) (by simp)]
      rw [show (firstN ([] : List Pf) == ([] : List Pf).length && (((2 : Int) == 2) || ([] : List Pf).any (fun x => x.1 == 2))) = true from rfl, Bool.not_true, cond_false, show (!(((2 : Int) == 2) == ((([] : List Pf).length : Int) == 0))) = false from by decide, cond_false]
      rw [builds_nil (by omega)]
      rfl
    · by_cases hp : PrI q
      · obtain ⟨l, hl, hb⟩ := build_prime hp (by omega) (by omega) (k := 16777500) (by omega)
        obtain ⟨b1, b2⟩ := blist_last hl
        have hc := hl.cnt
        have h24 := lg_24 (p := q) (by omega) (by omega)
        have hany : l.any (fun x => x.1 == q) = true := by
          obtain ⟨x, hx, e⟩ := hl.has
          exact List.any_eq_true.2 ⟨x, hx, beq_iff_eq.2 e⟩
        rw [hb, dF c1, (is_spec (by omega) (by omega) (by omega) _).1 (isB_pr.2 hp)]
        show (bif (!((true) == true)) then _ else _) = _
        rw [show (!((true) == true)) = false from rfl, cond_false, nF rfl, shows2_spec _ (by omega) (by omega), blist_first hl a1 (by omega), hany, Bool.or_true, beq_self_eq_true, Bool.and_true, Bool.not_true, cond_false, beq_eq_false_iff_ne.2 c2, beq_eq_false_iff_ne.2 (show (l.length : Int) ≠ 0 by omega), show (!((false) == false)) = false from rfl, cond_false]
        have := builds_l0 a1 hl (by omega) (k := 16777500) (by omega) (fun t2 => ret t2) (fun p6 l7 => bif ((l7.length : Int) == 0) then (ret true) else (bif (decide (0 ≤ (IntKind.wrap .i64 ((l7.length : Int) - 1))) && decide ((IntKind.wrap .i64 ((l7.length : Int) - 1)) < (l7.length : Int))) then (ret (((l7.getD ((IntKind.wrap .i64 ((l7.length : Int) - 1)).toNat) (0, 0, [])).1) == p6)) else none)) l.length 16777500 0 (by omega) (by omega)
        rw [show ((0 : Nat) : Int) = 0 from rfl] at this
        rw [this, eF (by omega), ixm (by omega) (by omega), aT (by omega), Int.toNat_natCast, b2]
        show ret (q == q) = _
        rw [beq_self_eq_true]
      · rw [build_none hp (by omega) (by omega) (by omega), dF c1, (is_spec (by omega) (by omega) (by omega) _).2 (fun h => hp (isB_pr.1 h))]
        rfl
end Go.Proofs.Ytanpdkllnmeenaa.M

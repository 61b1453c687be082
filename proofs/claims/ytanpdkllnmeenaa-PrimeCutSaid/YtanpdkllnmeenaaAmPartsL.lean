/- The law PrimeParts. -/
import Derived.Test.YtanpdkllnmeenaaAmPartsW
import Derived.Test.YtanpdkllnmeenaaAmAwake
namespace Go.Proofs.Ytanpdkllnmeenaa.Am
set_option linter.unusedVariables false
theorem pl_append : ∀ (a b : List (Int × Int)) (n : Int), pl (a ++ b) n = (pl a n).bind (pl b)
  | [], b, n => rfl
  | x :: a, b, n => by
    rw [List.cons_append, pl, pl]
    by_cases c : 2 ≤ x.1 ∧ 1 ≤ x.2
    · rw [dT c, dT c]
      cases dv x.1 x.2.toNat n with
      | none => rfl
      | some v => exact pl_append a b v
    · rw [dF c, dF c]; rfl
theorem inc_append : ∀ (a : List (Int × Int)) (y : Int × Int), inc a = true → (∀ x ∈ a, x.1 < y.1) → inc (a ++ [y]) = true
  | [], y, _, _ => rfl
  | [x], y, _, h => by
    show (decide (x.1 < y.1) && true) = true
    rw [decide_eq_true (h x (List.mem_cons_self ..))]; rfl
  | x :: z :: r, y, hi, h => by
    rw [inc, Bool.and_eq_true] at hi
    show (decide (x.1 < z.1) && inc (z :: r ++ [y])) = true
    rw [hi.1, inc_append (z :: r) y hi.2 (fun w hw => h w (List.mem_cons_of_mem _ hw))]; rfl
theorem sq_lt {e : Int} (h : 65537 ≤ e) : 4294967296 < e * e := by
  have : 65537 * 65537 ≤ e * e := Int.mul_le_mul h h (by omega) (by omega)
  omega
end Go.Proofs.Ytanpdkllnmeenaa.Am
namespace Go.Proofs.Ytanpdkllnmeenaa.M
set_option linter.unusedVariables false
set_option maxRecDepth 100000
open Go Go.RowKit Go.Proofs Go.Proofs.Ytanpdkllnmeenaa.Am

theorem partsN_spec {n : Int} (h1 : 1 ≤ n) (h2 : n < 9223372036854775808) : (partsN n = ([], 3) ∧ 4294967296 ≤ n) ∨ ∃ l, partsN n = (l, 0) ∧ pl l n = some 1 ∧ inc l = true ∧ (∀ y ∈ l, isB y.1 ∧ y.1 < 4294967296 ∧ 1 ≤ y.2 ∧ y.2 ≤ 63) ∧ l.length ≤ 65536 := by
  obtain ⟨c1, c2, c3, c4, c5, c6, c7⟩ := facs_spec 65535 2 n (by omega) h1 h2 (free2 n)
  unfold partsN
  rw [dF (by omega)]
  generalize facs 65535 2 n = F at c1 c2 c3 c4 c5 c6 c7 ⊢
  by_cases k1 : 4294967296 ≤ F.2
  · left; rw [dT k1]; exact ⟨rfl, by omega⟩
  · right
    rw [dF k1]
    by_cases k2 : 1 < F.2
    · rw [dT k2]
      obtain ⟨e, e1, e2, e3, e4⟩ := c6 (by omega)
      have hlt : F.2 < e * e := by
        rcases e4 with e4 | e4
        · have := sq_lt (e := e) (by omega); omega
        · exact e4
      obtain ⟨b1, b2⟩ := e1.last (by omega) hlt (by omega)
      refine ⟨_, rfl, ?_, ?_, ?_, by rw [List.length_append, List.length_singleton]; omega⟩
      · rw [pl_append, (c1 F.2).2 rfl]
        show pl [(F.2, 1)] F.2 = some 1
        have hd : dv F.2 1 F.2 = some 1 := by rw [dv, if_pos Int.emod_self, Int.ediv_self (by omega)]; rfl
        rw [pl, dT ⟨by show 2 ≤ F.2; omega, by show (1 : Int) ≤ 1; omega⟩]
        show (dv F.2 1 F.2).bind (pl []) = some 1
        rw [hd]; rfl
      · exact inc_append _ _ c3 fun x hx => by have := e3 x hx; show x.1 < F.2; omega
      · intro y hy
        rcases List.mem_append.1 hy with hy | hy
        · have := c2 y hy; exact ⟨this.2.2.2.2, by omega, this.2.2.1, this.2.2.2.1⟩
        · rw [List.mem_singleton.1 hy]; exact ⟨b1, by show F.2 < _; omega, by show (1 : Int) ≤ 1; omega, by show (1 : Int) ≤ 63; omega⟩
    · rw [dF k2]
      refine ⟨_, rfl, ?_, c3, ?_, by omega⟩
      · rw [(c1 F.2).2 rfl]; congr 1; omega
      · intro y hy; have := c2 y hy; exact ⟨this.2.2.2.2, by omega, this.2.2.1, this.2.2.2.1⟩
theorem partsN_prime {n : Int} (h : isB n) (h2 : n < 4294967296) : partsN n = ([(n, 1)], 0) := by
  have := h.1
  unfold partsN
  rw [facs_prime h _ _ (by omega), dF (by omega), dF (p := 4294967296 ≤ n) (by omega), dT (p := 1 < n) (by omega)]
  rfl

theorem is_l0 {k : Nat} {R : Type} (x0 : Bool → Option R) (x1 : Unit → Option R) {n : Int} (h2 : n < 4294967296) (hn : 2 ≤ n) (d : Nat) : ∀ (m : Nat) (q : Int), q + d = 65537 → 2 ≤ q → d < m → Free q n →
    (isB n → affidavitref02_Is.L0 k x0 x1 m n q = x1 ()) ∧ (¬ isB n → affidavitref02_Is.L0 k x0 x1 m n q = x0 false) := by
  induction d with
  | zero =>
    intro m q hq hq2 hm hf
    obtain ⟨m, rfl⟩ : ∃ j, m = j + 1 := ⟨m - 1, by omega⟩
    have hs := sq_lt (e := q) (by omega)
    have hqq : q * q ≤ 65537 * 65537 := Int.mul_le_mul (by omega) (by omega) (by omega) (by omega)
    have hp := hf.last hn (by omega) (by omega)
    simp only [affidavitref02_Is.L0, affidavitref02_Is.B0]
    rw [wu_in (n := q * q) (by omega) (by omega), dF (by omega)]
    exact ⟨fun _ => rfl, fun h => absurd hp.1 h⟩
  | succ d ih =>
    intro m q hq hq2 hm hf
    obtain ⟨m, rfl⟩ : ∃ j, m = j + 1 := ⟨m - 1, by omega⟩
    have hqq : q * q ≤ 65536 * 65536 := Int.mul_le_mul (by omega) (by omega) (by omega) (by omega)
    have hqq0 : 0 ≤ q * q := Int.mul_nonneg (by omega) (by omega)
    simp only [affidavitref02_Is.L0, affidavitref02_Is.B0]
    rw [wu_in (n := q * q) hqq0 (by omega), nT (by omega), Int.tmod_eq_emod_of_nonneg (by omega), wu_in (n := q + 1) (by omega) (by omega)]
    by_cases c : q * q ≤ n
    · rw [dT c]
      by_cases h : n % q = 0
      · rw [eT h]
        exact ⟨fun hp => absurd h (hp.2 q hq2 c), fun _ => rfl⟩
      · rw [eF h]
        exact ih m (q + 1) (by omega) (by omega) (by omega) (hf.next h)
    · rw [dF c]
      have hp := hf.last hn (by omega) (by omega)
      exact ⟨fun _ => rfl, fun h => absurd hp.1 h⟩
theorem is_spec {n : Int} (h0 : 0 ≤ n) (h2 : n < 4294967296) {k : Nat} (hk : 65540 ≤ k) {R : Type} (ret : Bool → Option R) :
    (isB n → affidavitref02_Is.f k n ret = ret true) ∧ (¬ isB n → affidavitref02_Is.f k n ret = ret false) := by
  obtain ⟨k, rfl⟩ : ∃ m, k = m + 1 := ⟨k - 1, by omega⟩
  simp only [affidavitref02_Is.f]
  by_cases c : n < 2
  · rw [dT c]
    exact ⟨fun h => by have := h.1; omega, fun _ => rfl⟩
  · rw [dF c]
    exact is_l0 (k := k) (fun t2 => ret t2) (fun _ => ret true) h2 (by omega) 65535 k 2 (by omega) (by omega) (by omega) (free2 n)

theorem small_spec {n : Int} (h0 : 0 ≤ n) (h2 : n < 4294967296) {k : Nat} (hk : 65540 ≤ k) {R : Type} (ret : Bool → Option R) :
    (isB n → prime_Small.f k n ret = ret true) ∧ (¬ isB n → prime_Small.f k n ret = ret false) := by
  obtain ⟨k, rfl⟩ : ∃ m, k = m + 1 := ⟨k - 1, by omega⟩
  simp only [prime_Small.f]
  rw [dF (by omega), parts_spec h0 (by omega)]
  by_cases hn : n = 0
  · subst hn
    refine ⟨fun h => by have := h.1; omega, fun _ => ?_⟩
    have e : partsN 0 = ([], 1) := by unfold partsN; rw [dT (.inl rfl)]
    rw [e]
    rfl
  · rcases partsN_spec (n := n) (by omega) (by omega) with ⟨_, h⟩ | ⟨l, e, hpl, hinc, hall, hlen⟩
    · omega
    · refine ⟨fun h => ?_, fun h => ?_⟩
      · rw [partsN_prime h h2]; rfl
      · rw [e, eT rfl]
        match l, hpl, hall with
        | [], _, _ => rfl
        | x :: y :: r, _, _ =>
          rw [eF]
          simp only [List.length_cons]
          omega
        | [x], hpl, hall =>
          show ret (x.2 == 1) = ret false
          by_cases hx : x.2 = 1
          · exfalso
            apply h
            have hb := (hall x (List.mem_cons_self ..)).1
            rw [pl, dT ⟨hb.1, by omega⟩, hx] at hpl
            have e2 : (1 : Int).toNat = 1 := rfl
            rw [e2, dv] at hpl
            by_cases hm : n % x.1 = 0
            · rw [if_pos hm] at hpl
              have e3 : n / x.1 = 1 := Option.some.inj hpl
              have := Int.ediv_mul_add_emod n x.1
              rw [e3, hm] at this
              have e4 : n = x.1 := by omega
              rw [e4]; exact hb
            · rw [if_neg hm] at hpl; cases hpl
          · rw [beq_eq_false_iff_ne.2 hx]

theorem same_l0 {k : Nat} {R : Type} (x0 : Bool → Option R) (x1 : Unit → Option R) {l : List (Int × Int)} (hl : l.length < 281474976710656) (d : Nat) : ∀ (m i : Nat), i + d = l.length → d < m →
    affidavitref02_Same.L0 k x0 x1 m l l i = x1 () := by
  induction d with
  | zero =>
    intro m i hi hm
    obtain ⟨m, rfl⟩ : ∃ j, m = j + 1 := ⟨m - 1, by omega⟩
    simp only [affidavitref02_Same.L0, affidavitref02_Same.B0]
    rw [dF (by omega)]
  | succ d ih =>
    intro m i hi hm
    obtain ⟨m, rfl⟩ : ∃ j, m = j + 1 := ⟨m - 1, by omega⟩
    simp only [affidavitref02_Same.L0, affidavitref02_Same.B0]
    rw [dT (by omega), aT (by omega), aT (by omega), beq_self_eq_true, beq_self_eq_true, ix (by omega), ih m (i + 1) (by omega) (by omega)]
    rfl
theorem same_spec {l : List (Int × Int)} (hl : l.length < 281474976710656) {k : Nat} (hk : l.length + 2 ≤ k) {R : Type} (ret : Bool → Option R) : affidavitref02_Same.f k l l ret = ret true := by
  obtain ⟨k, rfl⟩ : ∃ m, k = m + 1 := ⟨k - 1, by omega⟩
  simp only [affidavitref02_Same.f]
  rw [nF rfl]
  exact same_l0 (k := k) (fun t4 => ret t4) (fun _ => ret true) hl l.length k 0 (by omega) (by omega)

theorem pp_l2 {k : Nat} {R : Type} (x0 : Bool → Option R) (x1 : Int → Int → List (Int × Int) → Option R) {l : List (Int × Int)} {i : Nat} (hi : i < l.length) (hq : 2 ≤ (l.getD i (0, 0)).1) (hT : (l.getD i (0, 0)).2 ≤ 63) (d : Nat) : ∀ (m : Nat) (t n : Int), d < m → 0 ≤ t → t + d = (l.getD i (0, 0)).2 → 1 ≤ n → n < 9223372036854775808 →
    affidavitlaw02_PrimeParts.L2 k x0 x1 m n i t l = (dv (l.getD i (0, 0)).1 d n).elim (x0 false) (fun v => x1 v i l) := by
  induction d with
  | zero =>
    intro m t n hm ht htd h1 h2
    obtain ⟨m, rfl⟩ : ∃ j, m = j + 1 := ⟨m - 1, by omega⟩
    simp only [affidavitlaw02_PrimeParts.L2, affidavitlaw02_PrimeParts.B2]
    rw [aT (by omega), Int.toNat_natCast, dF (by omega)]; rfl
  | succ d ih =>
    intro m t n hm ht htd h1 h2
    obtain ⟨m, rfl⟩ : ∃ j, m = j + 1 := ⟨m - 1, by omega⟩
    simp only [affidavitlaw02_PrimeParts.L2, affidavitlaw02_PrimeParts.B2]
    rw [aT (by omega), Int.toNat_natCast, dT (by omega), aT (by omega), nT (by omega), Int.tmod_eq_emod_of_nonneg (by omega), dv]
    by_cases h : n % (l.getD i (0, 0)).1 = 0
    · obtain ⟨a1, _, _, a3⟩ := div_half (j := 63) hq h1 (by simpa using h2) h
      rw [nF h, if_pos h, aT (by omega), nT (by omega), Int.tdiv_eq_ediv_of_nonneg (by omega), wu_in (by omega) (by omega), w64_in (by omega) (by omega)]
      exact ih m _ _ (by omega) (by omega) (by omega) a1 (by omega)
    · rw [nT h, if_neg h]; rfl
theorem pp_l0 {k : Nat} (hk : 65545 ≤ k) {R : Type} (x0 : Bool → Option R) (x1 : Int → Option R) {l : List (Int × Int)} (hl : l.length < 281474976710656) (hall : ∀ y ∈ l, isB y.1 ∧ y.1 < 4294967296 ∧ 1 ≤ y.2 ∧ y.2 ≤ 63) {w : Int} (d : Nat) : ∀ (m i : Nat) (n : Int), i + d = l.length → d < m → inc (l.drop (i - 1)) = true → pl (l.drop i) n = some w → 1 ≤ n → n < 9223372036854775808 →
    affidavitlaw02_PrimeParts.L0 k x0 x1 m n i l = x1 w := by
  induction d with
  | zero =>
    intro m i n hi hm hinc hpl h1 h2
    obtain ⟨m, rfl⟩ : ∃ j, m = j + 1 := ⟨m - 1, by omega⟩
    simp only [affidavitlaw02_PrimeParts.L0, affidavitlaw02_PrimeParts.B0]
    rw [List.drop_of_length_le (by omega), pl] at hpl
    rw [dF (by omega), Option.some.inj hpl]
  | succ d ih =>
    intro m i n hi hm hinc hpl h1 h2
    obtain ⟨m, rfl⟩ : ∃ j, m = j + 1 := ⟨m - 1, by omega⟩
    obtain ⟨y1, y2, y3, y4⟩ := hall _ (getD_mem (l := l) (i := i) (by omega) (0, 0))
    have hb := y1.1
    have hdr := drop_at (l := l) (i := i) (by omega) (0, 0)
    rw [hdr, pl, dT (p := 2 ≤ _ ∧ 1 ≤ _) ⟨hb, y3⟩] at hpl
    have hgo : affidavitlaw02_PrimeParts.L2 k (fun t4 => x0 t4) (fun n5 i2 l4 => affidavitlaw02_PrimeParts.L0 k x0 x1 m n5 (IntKind.wrap .i64 (i2 + 1)) l4) k n i 0 l = x1 w := by
      rw [pp_l2 _ _ (by omega) hb y4 (l.getD i (0, 0)).2.toNat k 0 n (by omega) (by omega) (by omega) h1 h2]
      cases hdv : dv (l.getD i (0, 0)).1 (l.getD i (0, 0)).2.toNat n with
      | none => rw [hdv] at hpl; cases hpl
      | some v =>
        rw [hdv, Option.bind_some] at hpl
        have := dv_pos hb _ _ _ h1 hdv
        have hinc' : inc (l.drop i) = true := by
          by_cases h0 : i = 0
          · subst h0; exact hinc
          · rw [drop_at (i := i - 1) (by omega) (0, 0), show (i - 1) + 1 = i by omega, hdr, inc, Bool.and_eq_true] at hinc
            rw [hdr]; exact hinc.2
        rw [Option.elim_some]
        show affidavitlaw02_PrimeParts.L0 k x0 x1 m v (IntKind.wrap .i64 ((i : Int) + 1)) l = _
        rw [ix (by omega)]
        exact ih m (i + 1) v (by omega) (by omega) (by rw [Nat.add_sub_cancel]; exact hinc') hpl (by omega) (by omega)
    have his := fun {R : Type} (ret : Bool → Option R) => (is_spec (n := (l.getD i (0, 0)).1) (by omega) y2 (k := k) (by omega) ret).1 y1
    simp only [affidavitlaw02_PrimeParts.L0, affidavitlaw02_PrimeParts.B0]
    rw [dT (by omega), aT (by omega), Int.toNat_natCast, dF (by omega), his, Bool.not_true, cond_false]
    by_cases c : i = 0
    · subst c
      rw [dF (by omega), aT (by omega)]
      exact hgo
    · rw [dT (by omega), aT (by omega), ixm (by omega) (by omega), aT (by omega), Int.toNat_natCast]
      rw [drop_at (i := i - 1) (by omega) (0, 0), show (i - 1) + 1 = i by omega, hdr, inc, Bool.and_eq_true] at hinc
      have hlt := of_decide_eq_true hinc.1
      rw [dF (by omega), aT (by omega)]
      exact hgo

theorem partsN_bad {n : Int} (h : n = 0 ∨ 9223372036854775808 ≤ n) : partsN n = ([], 1) := by unfold partsN; rw [dT h]
theorem primeParts_true {n m : Int} (h0 : 0 ≤ n) (hm0 : 0 ≤ m) {R : Type} (ret : Bool → Option R) : affidavitlaw02_PrimeParts.f 131201 n m ret = ret true := by
  have hlen : (partsN n).1.length ≤ 65536 := by
    by_cases h : n = 0 ∨ 9223372036854775808 ≤ n
    · rw [partsN_bad h]; simp
    · rcases partsN_spec (n := n) (by omega) (by omega) with ⟨e, _⟩ | ⟨l, e, _, _, _, hl⟩
      · rw [e]; simp
      · rw [e]; exact hl
  rw [show (131201 : Nat) = 131200 + 1 from rfl, affidavitlaw02_PrimeParts.f, awake_spec (by omega), Bool.not_true, cond_false, parts_spec h0 (by omega), rparts_spec h0 (by omega), nT (by omega), same_spec (by omega) (by omega), Bool.not_true, cond_false, nF rfl, Int.tmod_eq_emod_of_nonneg hm0]
  have hM0 : 0 ≤ m % 16777216 := Int.emod_nonneg _ (by omega)
  have hM1 : m % 16777216 < 4294967296 := by omega
  have hsm : ∀ (G : Bool → Option R), prime_Small.f 131200 (m % 16777216) (fun b2 => affidavitref02_Is.f 131200 (m % 16777216) (fun b3 => G (b2 == b3))) = G true := by
    intro G
    by_cases hp : isB (m % 16777216)
    · rw [(small_spec hM0 hM1 (by omega) _).1 hp, (is_spec hM0 hM1 (by omega) _).1 hp]; rfl
    · rw [(small_spec hM0 hM1 (by omega) _).2 hp, (is_spec hM0 hM1 (by omega) _).2 hp]; rfl
  refine (hsm (fun b => bif !b then ret false else _)).trans ?_
  rw [Bool.not_true, cond_false]
  by_cases h : n = 0 ∨ 9223372036854775808 ≤ n
  · rw [partsN_bad h]; rfl
  · rcases partsN_spec (n := n) (by omega) (by omega) with ⟨e, _⟩ | ⟨l, e, hpl, hinc, hall, hl⟩
    · rw [e]; rfl
    · rw [e, nF rfl]
      have := pp_l0 (k := 131200) (by omega) (fun t42 => ret t42) (fun n7 => ret (n7 == 1)) (by omega) hall l.length 131200 0 n (by omega) (by omega) hinc hpl (by omega) (by omega)
      rw [show ((0 : Nat) : Int) = 0 from rfl] at this
      rw [this]; rfl
end Go.Proofs.Ytanpdkllnmeenaa.M

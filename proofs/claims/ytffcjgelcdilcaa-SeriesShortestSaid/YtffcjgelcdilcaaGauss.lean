/- Linear equations over a field, taken to steps: which operations leave whether they can be solved. Plain algebra, no program in it. -/
import Derived.Test.YtffcjgelcdilcaaBm
set_option linter.unusedVariables false
set_option linter.unusedSimpArgs false
set_option linter.unusedSectionVars false
namespace Fp
open Classical
namespace Pl
section
variable {p : Nat} [NeZero p]

/-- Rows a to m - 1 of equations (the numbers from column k to n - 1, the side in column n) can be solved together. -/
def Sol (R : Nat → Nat → Fin p) (a m k n : Nat) : Prop := ∃ x : Nat → Fin p, ∀ i, a ≤ i → i < m → sm n (fun j => if k ≤ j then R i j * x j else 0) = R i n
theorem Sol.congr {R R' : Nat → Nat → Fin p} {a m k n : Nat} (h : ∀ i j, a ≤ i → i < m → k ≤ j → j ≤ n → R i j = R' i j) (hk : k ≤ n) : Sol R a m k n ↔ Sol R' a m k n := by
  constructor
  · rintro ⟨x, hx⟩
    refine ⟨x, fun i h1 h2 => ?_⟩
    rw [← h i n h1 h2 hk (Nat.le_refl _), ← hx i h1 h2]
    refine sm_congr fun j hj => ?_
    by_cases e : k ≤ j
    · rw [if_pos e, if_pos e, h i j h1 h2 e (by omega)]
    · rw [if_neg e, if_neg e]
  · rintro ⟨x, hx⟩
    refine ⟨x, fun i h1 h2 => ?_⟩
    rw [h i n h1 h2 hk (Nat.le_refl _), ← hx i h1 h2]
    refine sm_congr fun j hj => ?_
    by_cases e : k ≤ j
    · rw [if_pos e, if_pos e, h i j h1 h2 e (by omega)]
    · rw [if_neg e, if_neg e]
/-- A column of noughts. -/
theorem Sol.skip {R : Nat → Nat → Fin p} {a m k n : Nat} (h : ∀ i, a ≤ i → i < m → R i k = 0) : Sol R a m k n ↔ Sol R a m (k + 1) n := by
  have e : ∀ (x : Nat → Fin p) i, a ≤ i → i < m → sm n (fun j => if k ≤ j then R i j * x j else 0) = sm n (fun j => if k + 1 ≤ j then R i j * x j else 0) := fun x i h1 h2 => sm_congr fun j hj => by
    by_cases e1 : j = k
    · rw [if_pos (by omega), if_neg (by omega), e1, h i h1 h2]; grind
    · by_cases e2 : k ≤ j
      · rw [if_pos e2, if_pos (by omega)]
      · rw [if_neg e2, if_neg (by omega)]
  constructor
  · rintro ⟨x, hx⟩
    exact ⟨x, fun i h1 h2 => by rw [← e x i h1 h2, hx i h1 h2]⟩
  · rintro ⟨x, hx⟩
    exact ⟨x, fun i h1 h2 => by rw [e x i h1 h2, hx i h1 h2]⟩
/-- Two rows change places. -/
theorem Sol.swap {R R' : Nat → Nat → Fin p} {a m k n f : Nat} (ha : a < m) (hf : a ≤ f) (hfm : f < m) (h : ∀ i j, R' i j = if i = f then R a j else if i = a then R f j else R i j) : Sol R a m k n ↔ Sol R' a m k n := by
  constructor
  · rintro ⟨x, hx⟩
    refine ⟨x, fun i h1 h2 => ?_⟩
    by_cases e1 : i = f
    · have := hx a (Nat.le_refl _) ha
      rw [h i n, if_pos e1, ← this]
      exact sm_congr fun j _ => by rw [h i j, if_pos e1]
    · by_cases e2 : i = a
      · have := hx f hf hfm
        rw [h i n, if_neg e1, if_pos e2, ← this]
        exact sm_congr fun j _ => by rw [h i j, if_neg e1, if_pos e2]
      · have := hx i h1 h2
        rw [h i n, if_neg e1, if_neg e2, ← this]
        exact sm_congr fun j _ => by rw [h i j, if_neg e1, if_neg e2]
  · rintro ⟨x, hx⟩
    refine ⟨x, fun i h1 h2 => ?_⟩
    by_cases e1 : i = a
    · have := hx f hf hfm
      rw [h f n, if_pos rfl] at this
      rw [e1, ← this]
      exact sm_congr fun j _ => by rw [h f j, if_pos rfl]
    · by_cases e2 : i = f
      · have := hx a (Nat.le_refl _) ha
        rw [e2]
        by_cases e3 : a = f
        · rw [← e3]
          rw [h a n, if_pos e3] at this
          rw [← this]
          exact sm_congr fun j _ => by rw [h a j, if_pos e3]
        · rw [h a n, if_neg e3, if_pos rfl] at this
          rw [← this]
          exact sm_congr fun j _ => by rw [h a j, if_neg e3, if_pos rfl]
      · have := hx i h1 h2
        rw [h i n, if_neg e2, if_neg e1] at this
        rw [← this]
        exact sm_congr fun j _ => by rw [h i j, if_neg e2, if_neg e1]
/-- The rows below less so often the first one: its column is solved by it. -/
theorem Sol.step (hp : Fld p) {R R' : Nat → Nat → Fin p} {a m k n : Nat} (ha : a < m) (hk : k < n) (hne : R a k ≠ 0) (q : Nat → Fin p) (h : ∀ i j, a < i → i < m → k ≤ j → j ≤ n → R' i j = R i j - q i * R a j) (hz : ∀ i, a < i → i < m → R' i k = 0) :
    Sol R a m k n ↔ Sol R' (a + 1) m (k + 1) n := by
  have part : ∀ (T : Nat → Fin p), sm n (fun j => if k ≤ j then T j else 0) = T k + sm n (fun j => if k + 1 ≤ j then T j else 0) := fun T => by
    have e : sm n (fun j => if k ≤ j then T j else 0) = sm n (fun j => (if j = k then T k else 0) + if k + 1 ≤ j then T j else 0) := sm_congr fun j hj => by
      by_cases e1 : j = k
      · rw [if_pos (by omega), if_pos e1, if_neg (by omega), e1]; grind
      · by_cases e2 : k ≤ j
        · rw [if_pos e2, if_neg e1, if_pos (by omega)]; grind
        · rw [if_neg e2, if_neg e1, if_neg (by omega)]; grind
    rw [e, sm_add, sm_one k hk (fun j _ hj => if_neg hj), if_pos rfl]
  have row : ∀ (x : Nat → Fin p) i, a < i → i < m → sm n (fun j => if k + 1 ≤ j then R' i j * x j else 0) = sm n (fun j => if k ≤ j then R i j * x j else 0) - q i * sm n (fun j => if k ≤ j then R a j * x j else 0) := fun x i h1 h2 => by
    have e1 := part (fun j => R' i j * x j)
    have e2 : (R' i k * x k : Fin p) = 0 := by rw [hz i h1 h2]; grind
    have e3 : sm n (fun j => if k ≤ j then R' i j * x j else 0) = sm n (fun j => if k ≤ j then R i j * x j else 0) - q i * sm n (fun j => if k ≤ j then R a j * x j else 0) := by
      rw [← sm_mul, ← sm_sub]
      refine sm_congr fun j hj => ?_
      by_cases e : k ≤ j
      · rw [if_pos e, if_pos e, if_pos e, h i j h1 h2 e (by omega)]; grind
      · rw [if_neg e, if_neg e, if_neg e]; grind
    rw [e1, e2] at e3
    rw [← e3]; grind
  constructor
  · rintro ⟨x, hx⟩
    refine ⟨x, fun i h1 h2 => ?_⟩
    rw [row x i (by omega) h2, hx i (by omega) h2, hx a (Nat.le_refl _) ha, h i n (by omega) h2 (by omega) (Nat.le_refl _)]
  · rintro ⟨x, hx⟩
    obtain ⟨b, hb⟩ := hp.2 _ hne
    -- the number of column k, by the first row
    let y : Nat → Fin p := fun j => if j = k then b * (R a n - sm n (fun j => if k + 1 ≤ j then R a j * x j else 0)) else x j
    have yk : y k = b * (R a n - sm n (fun j => if k + 1 ≤ j then R a j * x j else 0)) := if_pos rfl
    have yj : ∀ T : Nat → Fin p, sm n (fun j => if k + 1 ≤ j then T j * y j else 0) = sm n (fun j => if k + 1 ≤ j then T j * x j else 0) := fun T => sm_congr fun j hj => by
      by_cases e : k + 1 ≤ j
      · rw [if_pos e, if_pos e]
        show T j * (if j = k then _ else x j) = _
        rw [if_neg (by omega)]
      · rw [if_neg e, if_neg e]
    have ha' : sm n (fun j => if k ≤ j then R a j * y j else 0) = R a n := by
      rw [part (fun j => R a j * y j), yj, yk]
      have : R a k * (b * (R a n - sm n (fun j => if k + 1 ≤ j then R a j * x j else 0))) = (R a k * b) * (R a n - sm n (fun j => if k + 1 ≤ j then R a j * x j else 0)) := by grind
      rw [this, hb]; grind
    refine ⟨y, fun i h1 h2 => ?_⟩
    by_cases e : i = a
    · rw [e]; exact ha'
    · have h3 := row y i (by omega) h2
      rw [ha', yj, hx i (by omega) h2, h i n (by omega) h2 (by omega) (Nat.le_refl _)] at h3
      grind
/-- No column is left. -/
theorem Sol.last {R : Nat → Nat → Fin p} {a m n : Nat} : Sol R a m n n ↔ ∀ i, a ≤ i → i < m → R i n = 0 := by
  have e : ∀ (x : Nat → Fin p) i, sm n (fun j => if n ≤ j then R i j * x j else 0) = 0 := fun x i => sm_eq_zero fun j hj => if_neg (by omega)
  constructor
  · rintro ⟨x, hx⟩ i h1 h2
    rw [← hx i h1 h2, e]
  · intro h
    exact ⟨fun _ => 0, fun i h1 h2 => by rw [e, h i h1 h2]⟩
/-- The equations of a rule of length n of the first N numbers. -/
theorem Sol.rule {S : Nat → Fin p} {R : Nat → Nat → Fin p} {n N : Nat} (hn : n ≤ N) (h : ∀ i j, i < N - n → j < n → R i j = S (n + i - (j + 1))) (h2 : ∀ i, i < N - n → R i n = 0 - S (n + i)) : Sol R 0 (N - n) 0 n ↔ ∃ D, Rl S D n N := by
  have key : ∀ (x : Nat → Fin p) i, i < N - n → cv (fun j => if j = 0 then 1 else if j ≤ n then x (j - 1) else 0) S (n + i) = S (n + i) + sm n (fun j => if 0 ≤ j then R i j * x j else 0) := fun x i hi => by
    unfold cv
    rw [sm_first, Nat.sub_zero, sm_more (n := n) (m := n + i) (by omega) (fun j h1 _ => by
      show (if j + 1 = 0 then (1 : Fin p) else if j + 1 ≤ n then x (j + 1 - 1) else 0) * _ = 0
      rw [if_neg (by omega), if_neg (by omega)]; grind)]
    have e : sm n (fun j => (if j + 1 = 0 then 1 else if j + 1 ≤ n then x (j + 1 - 1) else 0) * S (n + i - (j + 1))) = sm n (fun j => if 0 ≤ j then R i j * x j else 0) := sm_congr fun j hj => by
      rw [if_neg (by omega), if_pos (by omega), if_pos (Nat.zero_le _), Nat.add_sub_cancel, h i j hi hj]; grind
    rw [e]
    show (if (0 : Nat) = 0 then (1 : Fin p) else _) * _ + _ = _
    rw [if_pos rfl]; grind
  constructor
  · rintro ⟨x, hx⟩
    refine ⟨fun j => if j = 0 then 1 else if j ≤ n then x (j - 1) else 0, rfl, fun i hi => by
      show (if i = 0 then (1 : Fin p) else if i ≤ n then x (i - 1) else 0) = 0
      rw [if_neg (by omega), if_neg (by omega)], fun j h1 h2' => ?_⟩
    have e := key x (j - n) (by omega)
    rw [hx (j - n) (Nat.zero_le _) (by omega), h2 (j - n) (by omega), show n + (j - n) = j from by omega] at e
    rw [e]; grind
  · rintro ⟨D, hD⟩
    refine ⟨fun j => D (j + 1), fun i _ hi => ?_⟩
    have e := key (fun j => D (j + 1)) i hi
    have e2 : cv (fun j => if j = 0 then 1 else if j ≤ n then D (j - 1 + 1) else 0) S (n + i) = cv D S (n + i) := cv_congr (fun j _ => by
      show (if j = 0 then (1 : Fin p) else if j ≤ n then D (j - 1 + 1) else 0) = D j
      by_cases e1 : j = 0
      · rw [if_pos e1, e1, hD.one]
      · rw [if_neg e1]
        by_cases e2 : j ≤ n
        · rw [if_pos e2, show j - 1 + 1 = j from by omega]
        · rw [if_neg e2, hD.deg j (by omega)]) (fun _ _ => rfl)
    rw [e2, hD.nul (n + i) (by omega) (by omega)] at e
    rw [h2 i hi]
    grind
end
end Pl
end Fp

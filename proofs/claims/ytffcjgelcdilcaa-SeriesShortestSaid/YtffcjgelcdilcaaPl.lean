/- Finite sums over the numbers modulo p: plain algebra, no program in it. Polynomials over the numbers modulo p: the ring, degrees, values, divisors. Plain algebra, no program in it. Primes, plainly: divisors, trial division, and a root whose powers are all numbers but 0. No program in sight. -/

set_option linter.unusedVariables false
set_option linter.unusedSimpArgs false
set_option linter.unusedSectionVars false
namespace Fp

/-- The sum of f 0, .., f (n - 1). -/
def sm {p : Nat} [NeZero p] : Nat → (Nat → Fin p) → Fin p
  | 0, _ => 0
  | n + 1, f => sm n f + f n

section
variable {p : Nat} [NeZero p]

theorem sm_zero (f : Nat → Fin p) : sm 0 f = 0 := rfl
theorem sm_succ (n : Nat) (f : Nat → Fin p) : sm (n + 1) f = sm n f + f n := rfl

theorem sm_congr {n : Nat} {f g : Nat → Fin p} (h : ∀ i, i < n → f i = g i) : sm n f = sm n g := by
  induction n with
  | zero => rfl
  | succ n ih =>
    rw [sm_succ, sm_succ, ih (fun i hi => h i (by omega)), h n (by omega)]

theorem sm_eq_zero {n : Nat} {f : Nat → Fin p} (h : ∀ i, i < n → f i = 0) : sm n f = 0 := by
  induction n with
  | zero => rfl
  | succ n ih =>
    rw [sm_succ, ih (fun i hi => h i (by omega)), h n (by omega)]
    grind

theorem sm_add (n : Nat) (f g : Nat → Fin p) : sm n (fun i => f i + g i) = sm n f + sm n g := by
  induction n with
  | zero => rw [sm_zero, sm_zero, sm_zero]; grind
  | succ n ih => rw [sm_succ, sm_succ, sm_succ, ih]; grind

theorem sm_sub (n : Nat) (f g : Nat → Fin p) : sm n (fun i => f i - g i) = sm n f - sm n g := by
  induction n with
  | zero => rw [sm_zero, sm_zero, sm_zero]; grind
  | succ n ih => rw [sm_succ, sm_succ, sm_succ, ih]; grind

theorem sm_neg (n : Nat) (f : Nat → Fin p) : sm n (fun i => - f i) = - sm n f := by
  induction n with
  | zero => rw [sm_zero, sm_zero]; grind
  | succ n ih => rw [sm_succ, sm_succ, ih]; grind

theorem sm_mul (n : Nat) (c : Fin p) (f : Nat → Fin p) : sm n (fun i => c * f i) = c * sm n f := by
  induction n with
  | zero => rw [sm_zero, sm_zero]; grind
  | succ n ih => rw [sm_succ, sm_succ, ih]; grind

theorem sm_mul_right (n : Nat) (c : Fin p) (f : Nat → Fin p) : sm n (fun i => f i * c) = sm n f * c := by
  induction n with
  | zero => rw [sm_zero, sm_zero]; grind
  | succ n ih => rw [sm_succ, sm_succ, ih]; grind

/-- The first one apart. -/
theorem sm_first (n : Nat) (f : Nat → Fin p) : sm (n + 1) f = f 0 + sm n (fun i => f (i + 1)) := by
  induction n with
  | zero => rw [sm_succ, sm_zero, sm_zero]; grind
  | succ n ih => rw [sm_succ, ih, sm_succ]; grind

theorem sm_append (n m : Nat) (f : Nat → Fin p) : sm (n + m) f = sm n f + sm m (fun i => f (n + i)) := by
  induction m with
  | zero => rw [sm_zero, Nat.add_zero]; grind
  | succ m ih => rw [Nat.add_succ, sm_succ, ih, sm_succ]; grind

/-- What stands behind place n adds nothing. -/
theorem sm_more {n m : Nat} (hm : n ≤ m) {f : Nat → Fin p} (h : ∀ i, n ≤ i → i < m → f i = 0) : sm m f = sm n f := by
  obtain ⟨k, rfl⟩ := Nat.exists_eq_add_of_le hm
  rw [sm_append, sm_eq_zero (n := k) (fun i hi => h (n + i) (by omega) (by omega))]
  grind

theorem sm_rev (n : Nat) (f : Nat → Fin p) : sm n (fun i => f (n - 1 - i)) = sm n f := by
  induction n with
  | zero => rfl
  | succ n ih =>
    rw [sm_first, sm_succ, ← ih]
    rw [sm_congr (f := fun i => f (n + 1 - 1 - (i + 1))) (g := fun i => f (n - 1 - i)) (fun i hi => by congr 1; omega)]
    have : n + 1 - 1 - 0 = n := by omega
    rw [this]
    grind

theorem sm_swap (n m : Nat) (f : Nat → Nat → Fin p) : sm n (fun i => sm m (f i)) = sm m (fun j => sm n (fun i => f i j)) := by
  induction n with
  | zero => exact (sm_eq_zero (fun _ _ => rfl)).symm
  | succ n ih =>
    rw [sm_succ, ih, ← sm_add]
    rfl

/-- One alone. -/
theorem sm_one {n : Nat} (k : Nat) (hk : k < n) {f : Nat → Fin p} (h : ∀ i, i < n → i ≠ k → f i = 0) : sm n f = f k := by
  induction n with
  | zero => omega
  | succ n ih =>
    rw [sm_succ]
    by_cases e : k = n
    · subst e
      rw [sm_eq_zero (fun i hi => h i (by omega) (by omega))]
      grind
    · rw [ih (by omega) (fun i hi hik => h i (by omega) hik), h n (by omega) (by omega)]
      grind

/-- A triangle, gone through by rows and by columns. -/
theorem sm_triangle (n : Nat) (f : Nat → Nat → Fin p) : sm n (fun i => sm (i + 1) (fun j => f j (i - j))) = sm n (fun j => sm (n - j) (fun k => f j k)) := by
  induction n with
  | zero => rfl
  | succ n ih =>
    rw [sm_succ, ih]
    have h1 : sm (n + 1) (fun j => sm (n + 1 - j) (fun k => f j k)) = sm (n + 1) (fun j => sm (n - j) (fun k => f j k) + f j (n - j)) := by
      refine sm_congr fun j hj => ?_
      have : n + 1 - j = (n - j) + 1 := by omega
      rw [this, sm_succ]
    rw [h1, sm_add, sm_succ n (fun j => sm (n - j) (fun k => f j k))]
    have h2 : n - n = 0 := by omega
    rw [h2, sm_zero]
    grind
end
end Fp

namespace Fp
open Classical

/-- A polynomial: its number at each power; from somewhere on 0. -/
structure Pl (p : Nat) [NeZero p] where
  co : Nat → Fin p
  fin : ∃ n, ∀ i, n ≤ i → co i = 0

section
variable {p : Nat} [NeZero p]

def cv (f g : Nat → Fin p) (n : Nat) : Fin p := sm (n + 1) (fun i => f i * g (n - i))

theorem cv_comm (f g : Nat → Fin p) (n : Nat) : cv f g n = cv g f n := by
  unfold cv
  rw [← sm_rev]
  refine sm_congr fun i hi => ?_
  have h1 : n + 1 - 1 - i = n - i := by omega
  have h2 : n - (n - i) = i := by omega
  rw [h1, h2]
  grind

theorem cv_assoc (f g h : Nat → Fin p) (n : Nat) : cv (cv f g) h n = cv f (cv g h) n := by
  have h1 : cv (cv f g) h n = sm (n + 1) (fun i => sm (i + 1) (fun j => f j * g (i - j) * h (n - j - (i - j)))) := by
    unfold cv
    refine sm_congr fun i hi => ?_
    rw [← sm_mul_right]
    refine sm_congr fun j hj => ?_
    have : n - j - (i - j) = n - i := by omega
    rw [this]
  rw [h1, sm_triangle (n + 1) (fun j k => f j * g k * h (n - j - k))]
  unfold cv
  refine sm_congr fun j hj => ?_
  rw [← sm_mul]
  have : n + 1 - j = n - j + 1 := by omega
  rw [this]
  refine sm_congr fun k hk => ?_
  grind

theorem cv_add (f g h : Nat → Fin p) (n : Nat) : cv f (fun i => g i + h i) n = cv f g n + cv f h n := by
  unfold cv
  rw [← sm_add]
  exact sm_congr fun i _ => by grind

theorem cv_bound {f g : Nat → Fin p} {a b : Nat} (hf : ∀ i, a ≤ i → f i = 0) (hg : ∀ i, b ≤ i → g i = 0) (i : Nat) (hi : a + b ≤ i + 1) : cv f g i = 0 := by
  unfold cv
  refine sm_eq_zero fun j hj => ?_
  by_cases h : a ≤ j
  · rw [hf j h]; grind
  · rw [hg (i - j) (by omega)]; grind

theorem cv_top {f g : Nat → Fin p} {a b : Nat} (hf : ∀ i, a < i → f i = 0) (hg : ∀ i, b < i → g i = 0) : cv f g (a + b) = f a * g b := by
  unfold cv
  rw [sm_one a (by omega) (fun j hj hja => ?_)]
  · have : a + b - a = b := by omega
    rw [this]
  · by_cases h : a < j
    · rw [hf j h]; grind
    · rw [hg (a + b - j) (by omega)]; grind

namespace Pl

theorem ext {f g : Pl p} (h : ∀ i, f.co i = g.co i) : f = g := by
  cases f; cases g; congr 1; exact funext h

instance : Zero (Pl p) := ⟨⟨fun _ => 0, 0, fun _ _ => rfl⟩⟩
/-- A number alone. -/
def C (c : Fin p) : Pl p := ⟨fun i => if i = 0 then c else 0, 1, fun i hi => by show (if i = 0 then c else 0) = _; rw [if_neg (by omega)]⟩
instance : One (Pl p) := ⟨C 1⟩
/-- A number at one power. -/
def T (c : Fin p) (n : Nat) : Pl p := ⟨fun i => if i = n then c else 0, n + 1, fun i hi => by show (if i = n then c else 0) = _; rw [if_neg (by omega)]⟩
instance : Add (Pl p) := ⟨fun f g => ⟨fun i => f.co i + g.co i, by
  obtain ⟨n, hn⟩ := f.fin; obtain ⟨m, hm⟩ := g.fin
  exact ⟨n + m, fun i hi => by show f.co i + g.co i = 0; rw [hn i (by omega), hm i (by omega)]; grind⟩⟩⟩
instance : Sub (Pl p) := ⟨fun f g => ⟨fun i => f.co i - g.co i, by
  obtain ⟨n, hn⟩ := f.fin; obtain ⟨m, hm⟩ := g.fin
  exact ⟨n + m, fun i hi => by show f.co i - g.co i = 0; rw [hn i (by omega), hm i (by omega)]; grind⟩⟩⟩
instance : Neg (Pl p) := ⟨fun f => ⟨fun i => - f.co i, by
  obtain ⟨n, hn⟩ := f.fin
  exact ⟨n, fun i hi => by show - f.co i = 0; rw [hn i (by omega)]; grind⟩⟩⟩
instance : Mul (Pl p) := ⟨fun f g => ⟨cv f.co g.co, by
  obtain ⟨n, hn⟩ := f.fin; obtain ⟨m, hm⟩ := g.fin
  exact ⟨n + m, fun i hi => cv_bound hn hm i (by omega)⟩⟩⟩

theorem zero_at (i : Nat) : (0 : Pl p).co i = 0 := rfl
theorem C_at (c : Fin p) (i : Nat) : (C c).co i = if i = 0 then c else 0 := rfl
theorem one_at (i : Nat) : (1 : Pl p).co i = if i = 0 then 1 else 0 := rfl
theorem T_at (c : Fin p) (n i : Nat) : (T c n).co i = if i = n then c else 0 := rfl
theorem add_at (f g : Pl p) (i : Nat) : (f + g).co i = f.co i + g.co i := rfl
theorem sub_at (f g : Pl p) (i : Nat) : (f - g).co i = f.co i - g.co i := rfl
theorem neg_at (f : Pl p) (i : Nat) : (-f).co i = - f.co i := rfl
theorem mul_at (f g : Pl p) (i : Nat) : (f * g).co i = cv f.co g.co i := rfl

theorem add_comm (f g : Pl p) : f + g = g + f := ext fun i => by rw [add_at, add_at]; grind
theorem add_assoc (f g h : Pl p) : f + g + h = f + (g + h) := ext fun i => by simp only [add_at]; grind
theorem add_zero (f : Pl p) : f + 0 = f := ext fun i => by rw [add_at, zero_at]; grind
theorem zero_add (f : Pl p) : 0 + f = f := by rw [add_comm, add_zero]
theorem add_neg (f : Pl p) : f + -f = 0 := ext fun i => by rw [add_at, neg_at, zero_at]; grind
theorem sub_eq (f g : Pl p) : f - g = f + -g := ext fun i => by rw [sub_at, add_at, neg_at]; grind
theorem mul_comm (f g : Pl p) : f * g = g * f := ext fun i => cv_comm _ _ i
theorem mul_assoc (f g h : Pl p) : f * g * h = f * (g * h) := ext fun i => cv_assoc _ _ _ i
theorem mul_add (f g h : Pl p) : f * (g + h) = f * g + f * h := ext fun i => cv_add _ _ _ i
theorem add_mul (f g h : Pl p) : (f + g) * h = f * h + g * h := by rw [mul_comm, mul_add, mul_comm h f, mul_comm h g]
theorem C_mul_at (c : Fin p) (f : Pl p) (i : Nat) : (C c * f).co i = c * f.co i := by
  rw [mul_at]
  unfold cv
  rw [sm_one 0 (by omega) (fun j _ hj => by rw [C_at, if_neg hj]; grind)]
  rw [C_at, if_pos rfl]
  rfl
theorem one_mul (f : Pl p) : 1 * f = f := ext fun i => by
  show (C 1 * f).co i = f.co i
  rw [C_mul_at]; grind
theorem mul_one (f : Pl p) : f * 1 = f := by rw [mul_comm, one_mul]
theorem zero_mul (f : Pl p) : 0 * f = 0 := ext fun i => by
  rw [mul_at, zero_at]; unfold cv
  exact sm_eq_zero fun j _ => by rw [zero_at]; grind
theorem mul_zero (f : Pl p) : f * 0 = 0 := by rw [mul_comm, zero_mul]
theorem neg_mul (f g : Pl p) : -f * g = -(f * g) := ext fun i => by
  rw [neg_at, mul_at, mul_at]; unfold cv
  rw [← sm_neg]
  exact sm_congr fun j _ => by rw [neg_at]; grind
theorem mul_neg (f g : Pl p) : f * -g = -(f * g) := by rw [mul_comm, neg_mul, mul_comm]
theorem mul_sub (f g h : Pl p) : f * (g - h) = f * g - f * h := by rw [sub_eq, mul_add, mul_neg, ← sub_eq]
theorem sub_mul (f g h : Pl p) : (f - g) * h = f * h - g * h := by rw [mul_comm, mul_sub, mul_comm h f, mul_comm h g]
theorem neg_add (f g : Pl p) : -(f + g) = -f + -g := ext fun i => by simp only [neg_at, add_at]; grind
theorem neg_neg (f : Pl p) : - -f = f := ext fun i => by simp only [neg_at]; grind
theorem neg_zero : -(0 : Pl p) = 0 := ext fun i => by simp only [neg_at, zero_at]; grind
theorem sub_self (f : Pl p) : f - f = 0 := by rw [sub_eq, add_neg]
theorem sub_zero (f : Pl p) : f - 0 = f := by rw [sub_eq, neg_zero, add_zero]
theorem add_sub_cancel (f g : Pl p) : f + g - g = f := by rw [sub_eq, add_assoc, add_neg, add_zero]
theorem sub_add_cancel (f g : Pl p) : f - g + g = f := by rw [sub_eq, add_assoc, add_comm (-g), add_neg, add_zero]
theorem eq_of_sub {f g : Pl p} (h : f - g = 0) : f = g := by rw [← sub_add_cancel f g, h, zero_add]
theorem C_mul (c d : Fin p) : C c * C d = C (c * d) := ext fun i => by
  rw [C_mul_at, C_at, C_at]; split <;> grind
theorem C_one : C (1 : Fin p) = 1 := rfl
theorem C_zero : C (0 : Fin p) = 0 := ext fun i => by rw [C_at, zero_at]; split <;> rfl
theorem T_eq (c : Fin p) (n : Nat) : T c n = C c * T 1 n := ext fun i => by rw [C_mul_at, T_at, T_at]; split <;> grind
theorem T_mul_at (c : Fin p) (n : Nat) (f : Pl p) (i : Nat) : (T c n * f).co i = if n ≤ i then c * f.co (i - n) else 0 := by
  rw [mul_at]; unfold cv
  by_cases h : n ≤ i
  · rw [if_pos h, sm_one n (by omega) (fun j _ hj => by rw [T_at, if_neg hj]; grind), T_at, if_pos rfl]
  · rw [if_neg h]
    exact sm_eq_zero fun j hj => by rw [T_at, if_neg (by omega)]; grind

instance : Std.Commutative (α := Pl p) (· * ·) := ⟨mul_comm⟩
instance : Std.Associative (α := Pl p) (· * ·) := ⟨mul_assoc⟩
instance : Std.Commutative (α := Pl p) (· + ·) := ⟨add_comm⟩
instance : Std.Associative (α := Pl p) (· + ·) := ⟨add_assoc⟩

/-! ### Sizes: one more than the degree; 0 for 0 -/
theorem least (P : Nat → Prop) (h : ∃ n, P n) : ∃ n, P n ∧ ∀ m, m < n → ¬ P m := by
  obtain ⟨n, hn⟩ := h
  induction n using Nat.strongRecOn with
  | _ n ih =>
    by_cases h : ∃ m, m < n ∧ P m
    · obtain ⟨m, hm, hP⟩ := h
      exact ih m hm hP
    · exact ⟨n, hn, fun m hm hP => h ⟨m, hm, hP⟩⟩

noncomputable def sz (f : Pl p) : Nat := Classical.choose (least _ f.fin)
theorem sz_zero_from (f : Pl p) {i : Nat} (h : sz f ≤ i) : f.co i = 0 := (Classical.choose_spec (least _ f.fin)).1 i h
theorem sz_le {f : Pl p} {n : Nat} (h : ∀ i, n ≤ i → f.co i = 0) : sz f ≤ n := by
  apply Nat.le_of_not_lt
  intro hlt
  exact (Classical.choose_spec (least _ f.fin)).2 n hlt h
theorem sz_top {f : Pl p} {d : Nat} (h : sz f = d + 1) : f.co d ≠ 0 := by
  intro h0
  have : sz f ≤ d := sz_le fun i hi => by
    by_cases e : i = d
    · rw [e]; exact h0
    · exact sz_zero_from f (by omega)
  omega
theorem sz_eq {f : Pl p} {d : Nat} (h0 : f.co d ≠ 0) (h : ∀ i, d < i → f.co i = 0) : sz f = d + 1 := by
  have h1 : sz f ≤ d + 1 := sz_le fun i hi => h i (by omega)
  have h2 : ¬ sz f ≤ d := fun hle => h0 (sz_zero_from f hle)
  omega
theorem lt_sz {f : Pl p} {d : Nat} (h0 : f.co d ≠ 0) : d < sz f := Nat.lt_of_not_le fun hle => h0 (sz_zero_from f hle)
theorem sz_zero : sz (0 : Pl p) = 0 := Nat.le_zero.1 (sz_le fun _ _ => rfl)
theorem eq_zero {f : Pl p} (h : sz f = 0) : f = 0 := ext fun i => sz_zero_from f (by omega)
theorem sz_pos {f : Pl p} (h : f ≠ 0) : 0 < sz f := Nat.pos_of_ne_zero fun e => h (eq_zero e)
/-- The number at the greatest power. -/
noncomputable def top (f : Pl p) : Fin p := f.co (sz f - 1)
theorem top_ne {f : Pl p} (h : f ≠ 0) : top f ≠ 0 := sz_top (d := sz f - 1) (by have := sz_pos h; omega)
theorem sz_add_le (f g : Pl p) : sz (f + g) ≤ max (sz f) (sz g) := sz_le fun i hi => by
  rw [add_at, sz_zero_from f (by omega), sz_zero_from g (by omega)]; grind
theorem sz_sub_le (f g : Pl p) : sz (f - g) ≤ max (sz f) (sz g) := sz_le fun i hi => by
  rw [sub_at, sz_zero_from f (by omega), sz_zero_from g (by omega)]; grind
theorem sz_mul_le (f g : Pl p) : sz (f * g) ≤ sz f + sz g - 1 := sz_le fun i hi =>
  cv_bound (a := sz f) (b := sz g) (fun j hj => sz_zero_from f hj) (fun j hj => sz_zero_from g hj) i (by omega)
theorem sz_neg (f : Pl p) : sz (-f) = sz f := by
  apply Nat.le_antisymm
  · exact sz_le fun i hi => by rw [neg_at, sz_zero_from f hi]; grind
  · exact sz_le fun i hi => by
      have := sz_zero_from (-f) hi
      rw [neg_at] at this
      grind
theorem sz_C_le (c : Fin p) : sz (C c) ≤ 1 := sz_le fun i hi => by rw [C_at, if_neg (by omega)]
theorem eq_C {f : Pl p} (h : sz f ≤ 1) : f = C (f.co 0) := ext fun i => by
  rw [C_at]
  split
  · rename_i e; rw [e]
  · exact sz_zero_from f (by omega)

/-! ### Values -/
def pw (x : Fin p) : Nat → Fin p
  | 0 => 1
  | n + 1 => pw x n * x
theorem pw_add (x : Fin p) (n m : Nat) : pw x (n + m) = pw x n * pw x m := by
  induction m with
  | zero => rw [Nat.add_zero, pw]; grind
  | succ m ih => rw [Nat.add_succ, pw, pw, ih]; grind
noncomputable def ev (f : Pl p) (x : Fin p) : Fin p := sm (sz f) (fun i => f.co i * pw x i)
theorem ev_bound (f : Pl p) (x : Fin p) {n : Nat} (h : ∀ i, n ≤ i → f.co i = 0) : ev f x = sm n (fun i => f.co i * pw x i) :=
  (sm_more (sz_le h) (fun i hi _ => by rw [sz_zero_from f hi]; grind)).symm
theorem ev_add (f g : Pl p) (x : Fin p) : ev (f + g) x = ev f x + ev g x := by
  have hf : ∀ i, max (sz f) (sz g) ≤ i → f.co i = 0 := fun i hi => sz_zero_from f (by omega)
  have hg : ∀ i, max (sz f) (sz g) ≤ i → g.co i = 0 := fun i hi => sz_zero_from g (by omega)
  rw [ev_bound f x hf, ev_bound g x hg, ev_bound (f + g) x (n := max (sz f) (sz g)) (fun i hi => by rw [add_at, hf i hi, hg i hi]; grind), ← sm_add]
  exact sm_congr fun i _ => by rw [add_at]; grind
theorem ev_mul (f g : Pl p) (x : Fin p) : ev (f * g) x = ev f x * ev g x := by
  rw [ev_bound (f * g) x (n := sz f + sz g) (fun i hi => cv_bound (fun j hj => sz_zero_from f hj) (fun j hj => sz_zero_from g hj) i (by omega))]
  have h1 : sm (sz f + sz g) (fun i => (f * g).co i * pw x i) = sm (sz f + sz g) (fun i => sm (i + 1) (fun j => (fun j k => f.co j * pw x j * (g.co k * pw x k)) j (i - j))) := by
    refine sm_congr fun i hi => ?_
    rw [mul_at]
    unfold cv
    rw [← sm_mul_right]
    refine sm_congr fun j hj => ?_
    have : i = j + (i - j) := by omega
    have e : pw x i = pw x j * pw x (i - j) := by rw [← pw_add]; congr 1
    rw [e]
    show _ = f.co j * pw x j * (g.co (i - j) * pw x (i - j))
    grind
  rw [h1, sm_triangle (sz f + sz g) (fun j k => f.co j * pw x j * (g.co k * pw x k)), sm_append]
  have h2 : sm (sz g) (fun i => (fun j => sm (sz f + sz g - j) (fun k => (fun j k => f.co j * pw x j * (g.co k * pw x k)) j k)) (sz f + i)) = 0 := by
    refine sm_eq_zero fun i _ => sm_eq_zero fun k _ => ?_
    show f.co (sz f + i) * pw x (sz f + i) * (g.co k * pw x k) = 0
    rw [sz_zero_from f (by omega)]; grind
  rw [h2]
  have h3 : sm (sz f) (fun j => sm (sz f + sz g - j) (fun k => (fun j k => f.co j * pw x j * (g.co k * pw x k)) j k)) = sm (sz f) (fun j => f.co j * pw x j * ev g x) := by
    refine sm_congr fun j hj => ?_
    show sm (sz f + sz g - j) (fun k => f.co j * pw x j * (g.co k * pw x k)) = _
    rw [sm_mul, ev_bound g x (n := sz f + sz g - j) (fun i hi => sz_zero_from g (by omega))]
  rw [h3, sm_mul_right]
  show ev f x * ev g x + 0 = _
  grind
theorem ev_C (c x : Fin p) : ev (C c) x = c := by
  rw [ev_bound (C c) x (n := 1) (fun i hi => by rw [C_at, if_neg (by omega)])]
  rw [sm_succ, sm_zero, C_at, if_pos rfl, pw]
  grind
theorem ev_zero (x : Fin p) : ev 0 x = 0 := by rw [← C_zero, ev_C]
theorem ev_T1 (c x : Fin p) : ev (T c 1) x = c * x := by
  rw [ev_bound (T c 1) x (n := 2) (fun i hi => by rw [T_at, if_neg (by omega)]), sm_succ, sm_succ, sm_zero, T_at, T_at, if_neg (by omega), if_pos rfl, pw, pw, pw]
  grind

/-! ### Over a field -/
/-- Every number but 0 has an inverse. -/
def Fld (p : Nat) [NeZero p] : Prop := (0 : Fin p) ≠ 1 ∧ ∀ a : Fin p, a ≠ 0 → ∃ b, a * b = 1
theorem Fld.mul_ne (hp : Fld p) {a b : Fin p} (ha : a ≠ 0) (hb : b ≠ 0) : a * b ≠ 0 := by
  obtain ⟨c, hc⟩ := hp.2 a ha
  intro h
  apply hb
  have : c * (a * b) = 0 := by rw [h]; grind
  grind
theorem sz_mul (hp : Fld p) {f g : Pl p} (hf : f ≠ 0) (hg : g ≠ 0) : sz (f * g) + 1 = sz f + sz g := by
  have h1 := sz_pos hf
  have h2 := sz_pos hg
  have ht : (f * g).co (sz f - 1 + (sz g - 1)) = top f * top g := cv_top (fun i hi => sz_zero_from f (by omega)) (fun i hi => sz_zero_from g (by omega))
  have := sz_eq (f := f * g) (d := sz f - 1 + (sz g - 1)) (by rw [ht]; exact hp.mul_ne (top_ne hf) (top_ne hg))
    (fun i hi => cv_bound (fun j hj => sz_zero_from f hj) (fun j hj => sz_zero_from g hj) i (by omega))
  omega
theorem mul_ne (hp : Fld p) {f g : Pl p} (hf : f ≠ 0) (hg : g ≠ 0) : f * g ≠ 0 := by
  intro h
  have h1 := sz_mul hp hf hg
  rw [h, sz_zero] at h1
  have := sz_pos hf
  have := sz_pos hg
  omega
theorem top_mul (hp : Fld p) {f g : Pl p} (hf : f ≠ 0) (hg : g ≠ 0) : top (f * g) = top f * top g := by
  have h := sz_mul hp hf hg
  have h1 := sz_pos hf
  have h2 := sz_pos hg
  have ht : (f * g).co (sz f - 1 + (sz g - 1)) = top f * top g := cv_top (fun i hi => sz_zero_from f (by omega)) (fun i hi => sz_zero_from g (by omega))
  rw [← ht]
  unfold top
  congr 1
  omega
theorem cancel (hp : Fld p) {f g h : Pl p} (hf : f ≠ 0) (e : f * g = f * h) : g = h := by
  apply eq_of_sub
  apply Classical.byContradiction
  intro hne
  exact mul_ne hp hf hne (by rw [mul_sub, e, sub_self])

/-- Divides. -/
def Dv (f g : Pl p) : Prop := ∃ h, g = f * h
theorem Dv.refl (f : Pl p) : Dv f f := ⟨1, (mul_one f).symm⟩
theorem Dv.trans {f g h : Pl p} : Dv f g → Dv g h → Dv f h
  | ⟨a, ha⟩, ⟨b, hb⟩ => ⟨a * b, by rw [hb, ha, mul_assoc]⟩
theorem Dv.zero (f : Pl p) : Dv f 0 := ⟨0, (mul_zero f).symm⟩
theorem Dv.add {f g h : Pl p} : Dv f g → Dv f h → Dv f (g + h)
  | ⟨a, ha⟩, ⟨b, hb⟩ => ⟨a + b, by rw [mul_add, ← ha, ← hb]⟩
theorem Dv.sub {f g h : Pl p} : Dv f g → Dv f h → Dv f (g - h)
  | ⟨a, ha⟩, ⟨b, hb⟩ => ⟨a - b, by rw [mul_sub, ← ha, ← hb]⟩
theorem Dv.mul_left {f g : Pl p} (h : Pl p) : Dv f g → Dv f (h * g)
  | ⟨a, ha⟩ => ⟨h * a, by rw [ha, ← mul_assoc, ← mul_assoc, mul_comm h f]⟩
theorem Dv.mul_right {f g : Pl p} (h : Pl p) (hd : Dv f g) : Dv f (g * h) := by rw [mul_comm]; exact hd.mul_left h
theorem Dv.of_mul (f g : Pl p) : Dv f (f * g) := ⟨g, rfl⟩
theorem Dv.of_mul' (f g : Pl p) : Dv f (g * f) := ⟨g, mul_comm _ _⟩
theorem Dv.eq_zero {g : Pl p} : Dv 0 g → g = 0
  | ⟨a, ha⟩ => by rw [ha, zero_mul]
theorem Dv.sz_le (hp : Fld p) {f g : Pl p} (h : Dv f g) (hg : g ≠ 0) : sz f ≤ sz g := by
  obtain ⟨a, rfl⟩ := h
  have hf : f ≠ 0 := fun e => hg (by rw [e, zero_mul])
  have ha : a ≠ 0 := fun e => hg (by rw [e, mul_zero])
  have := sz_mul hp hf ha
  have := sz_pos ha
  omega
/-- What divides each other, and begins with the same, is the same. -/
theorem Dv.antisymm (hp : Fld p) {f g : Pl p} (h1 : Dv f g) (h2 : Dv g f) (ht : top f = top g) : f = g := by
  by_cases hf : f = 0
  · subst hf; exact h1.eq_zero.symm
  · have hg : g ≠ 0 := fun e => hf (by subst e; exact h2.eq_zero)
    obtain ⟨a, ha⟩ := h1
    have ha0 : a ≠ 0 := fun e => hg (by rw [ha, e, mul_zero])
    have hs := h2.sz_le hp hf
    have hm := sz_mul hp hf ha0
    rw [← ha] at hm
    have hone : sz a ≤ 1 := by omega
    have hC := eq_C hone
    have htop := top_mul hp hf ha0
    rw [← ha] at htop
    have hta : top a = a.co 0 := by unfold top; congr 1; omega
    rw [hta, ← ht] at htop
    have hne := top_ne hf
    obtain ⟨b, hb⟩ := hp.2 _ hne
    have : a.co 0 = 1 := by grind
    rw [ha, hC, this]
    show f = f * 1
    rw [mul_one]
/-- A quotient and rest are the only ones. -/
theorem div_unique (hp : Fld p) {b q r q' r' : Pl p} (hr : sz r < sz b) (hr' : sz r' < sz b) (h : q * b + r = q' * b + r') : q = q' ∧ r = r' := by
  have hb : b ≠ 0 := fun e => by rw [e, sz_zero] at hr; omega
  have e : (q - q') * b = r' - r := by
    have : q * b + r - q' * b - r = q' * b + r' - q' * b - r := by rw [h]
    rw [sub_mul]
    calc q * b - q' * b = q * b + r - q' * b - r := by simp only [sub_eq]; rw [add_assoc (q * b) r, add_comm r, ← add_assoc (q * b), add_assoc _ r, add_neg, add_zero]
      _ = q' * b + r' - q' * b - r := this
      _ = r' - r := by rw [add_comm (q' * b) r', add_sub_cancel]
  by_cases hq : q - q' = 0
  · have hq' := eq_of_sub hq
    rw [hq, zero_mul] at e
    exact ⟨hq', (eq_of_sub e.symm).symm⟩
  · exfalso
    have := sz_mul hp hq hb
    rw [e] at this
    have := sz_sub_le r' r
    have := sz_pos hq
    omega
end Pl
end
end Fp

namespace Fp
/-- A prime. -/
def Pr (n : Nat) : Prop := 2 ≤ n ∧ ∀ d, d ∣ n → d = 1 ∨ d = n
theorem bez (m n : Nat) : ∃ x y : Int, (m : Int) * x + n * y = (Nat.gcd m n : Int) := by
  induction m, n using Nat.gcd.induction with
  | H0 n => exact ⟨0, 1, by rw [Nat.gcd_zero_left]; omega⟩
  | H1 m n hm ih =>
    obtain ⟨x, y, h⟩ := ih
    refine ⟨y - (n / m : Nat) * x, x, ?_⟩
    rw [Nat.gcd_rec, ← h]
    have e : (n : Int) = (m : Int) * ((n / m : Nat) : Int) + ((n % m : Nat) : Int) := by
      have := Nat.div_add_mod n m
      exact_mod_cast this.symm
    generalize (n / m : Nat) = q at e ⊢
    generalize (n % m : Nat) = r at e ⊢
    rw [e]
    grind
theorem Pr.coprime {p a : Nat} (hp : Pr p) (h : ¬ p ∣ a) : Nat.gcd a p = 1 := by
  rcases hp.2 _ (Nat.gcd_dvd_right a p) with e | e
  · exact e
  · exact absurd (by rw [← e]; exact Nat.gcd_dvd_left a p) h
theorem Pr.mul {q a b : Nat} (hq : Pr q) (h : q ∣ a * b) : q ∣ a ∨ q ∣ b := by
  by_cases c : q ∣ a
  · exact .inl c
  · have h1 : Nat.Coprime q a := by
      have := hq.coprime c
      rw [Nat.gcd_comm] at this
      exact this
    exact .inr (h1.dvd_of_dvd_mul_left h)
theorem Pr.fac : ∀ n, 2 ≤ n → ∃ q, Pr q ∧ q ∣ n := by
  intro n
  induction n using Nat.strongRecOn with
  | ind n ih =>
    intro h
    by_cases hp : Pr n
    · exact ⟨n, hp, Nat.dvd_refl n⟩
    · have : ∃ d, d ∣ n ∧ d ≠ 1 ∧ d ≠ n := by
        apply Classical.byContradiction
        intro hc
        apply hp
        refine ⟨h, fun d hd => ?_⟩
        by_cases h1 : d = 1
        · exact .inl h1
        · exact .inr (Classical.byContradiction fun h2 => hc ⟨d, hd, h1, h2⟩)
      obtain ⟨d, hd, h1, h2⟩ := this
      have hle := Nat.le_of_dvd (by omega) hd
      have hd0 : d ≠ 0 := by
        rintro rfl
        have := Nat.eq_zero_of_zero_dvd hd
        omega
      obtain ⟨q, hq, hqd⟩ := ih d (by omega) (by omega)
      exact ⟨q, hq, Nat.dvd_trans hqd hd⟩
/-- No divisor up to the root: a prime. -/
theorem Pr.trial {n : Nat} (h2 : 2 ≤ n) (h : ∀ d, 2 ≤ d → d * d ≤ n → n % d ≠ 0) : Pr n := by
  refine ⟨h2, fun d hd => ?_⟩
  obtain ⟨e, he⟩ := hd
  by_cases h1 : d = 1
  · exact .inl h1
  · right
    apply Classical.byContradiction
    intro hn
    have hd0 : d ≠ 0 := by rintro rfl; omega
    have he0 : e ≠ 0 := by rintro rfl; omega
    have he1 : e ≠ 1 := by rintro rfl; omega
    rcases Nat.le_total d e with hle | hle
    · exact h d (by omega) (by rw [he]; exact Nat.mul_le_mul_left d hle) (by rw [he]; exact Nat.mul_mod_right d e)
    · exact h e (by omega) (by rw [he]; exact Nat.mul_le_mul_right e hle) (by rw [he]; exact Nat.mul_mod_left d e)
theorem Pr.no {n d : Nat} (hp : Pr n) (h2 : 2 ≤ d) (hd : d * d ≤ n) : n % d ≠ 0 := by
  intro h
  rcases hp.2 d (Nat.dvd_of_mod_eq_zero h) with e | e
  · omega
  · subst e
    have := Nat.mul_le_mul_left d h2
    omega

/-- Modulo a prime each number but 0 has an inverse. -/
theorem Pr.inv {p : Nat} [NeZero p] (hp : Pr p) (a : Fin p) (ha : a ≠ 0) : ∃ b, a * b = 1 := by
  have hav : a.val ≠ 0 := fun h => ha (Fin.ext (by rw [h]; rfl))
  have hnd : ¬ p ∣ a.val := fun h => by
    have := Nat.le_of_dvd (by omega) h
    have := a.isLt
    omega
  obtain ⟨x, y, h⟩ := bez a.val p
  rw [hp.coprime hnd] at h
  have hpp : (0 : Int) < p := by have := hp.1; omega
  refine ⟨Fin.ofNat p (x % p).toNat, Fin.ext ?_⟩
  rw [Fin.val_mul]
  show (a.val * ((x % p).toNat % p)) % p = 1 % p
  have hx0 := Int.emod_nonneg x (by omega : (p : Int) ≠ 0)
  have hx1 := Int.emod_lt_of_pos x hpp
  have e1 : (x % p).toNat % p = (x % p).toNat := Nat.mod_eq_of_lt (by omega)
  rw [e1]
  have e2 : (((a.val * (x % p).toNat) % p : Nat) : Int) = ((1 % p : Nat) : Int) := by
    rw [Int.natCast_emod, Int.natCast_mul, Int.toNat_of_nonneg hx0, Int.natCast_emod]
    rw [Int.mul_emod, Int.emod_emod_of_dvd _ (Int.dvd_refl _), ← Int.mul_emod]
    have : (a.val : Int) * x = 1 + p * (-y) := by grind
    rw [this, Int.add_mul_emod_self_left]
    rfl
  exact_mod_cast e2
theorem Pr.fld {p : Nat} [NeZero p] (hp : Pr p) : Pl.Fld p := by
  refine ⟨fun h => ?_, fun a ha => hp.inv a ha⟩
  have h1 : (0 : Fin p).val = (1 : Fin p).val := by rw [h]
  have h2 : (1 : Fin p).val = 1 % p := rfl
  rw [h2, Nat.mod_eq_of_lt (by have := hp.1; omega)] at h1
  exact absurd h1 (by show ¬ (0 : Nat) = 1; omega)

/-! ### A root whose powers are all numbers but 0 -/
theorem pigeon : ∀ (n : Nat) (f : Nat → Nat), (∀ i, i < n → f i < n) → (∀ i j, i < n → j < n → f i = f j → i = j) → ∀ v, v < n → ∃ i, i < n ∧ f i = v := by
  intro n
  induction n with
  | zero => intro f _ _ v hv; omega
  | succ n ih =>
    intro f hr hi v hv
    have hw := hr n (by omega)
    have h1 : ∀ i, i < n → (if f i = n then f n else f i) < n := by
      intro i hlt
      have h2 := hr i (by omega)
      split
      · rename_i hc
        have : f n ≠ n := fun h => by have := hi i n (by omega) (by omega) (hc.trans h.symm); omega
        omega
      · rename_i hc
        omega
    have h2 : ∀ i j, i < n → j < n → (if f i = n then f n else f i) = (if f j = n then f n else f j) → i = j := by
      intro i j hil hjl h
      split at h
      · rename_i c1
        split at h
        · rename_i c2
          exact hi i j (by omega) (by omega) (c1.trans c2.symm)
        · have := hi n j (by omega) (by omega) h
          omega
      · split at h
        · have := hi i n (by omega) (by omega) h
          omega
        · exact hi i j (by omega) (by omega) h
    have hih := ih (fun i => if f i = n then f n else f i) h1 h2
    by_cases c : v = f n
    · exact ⟨n, by omega, c.symm⟩
    · by_cases c2 : v < n
      · obtain ⟨i, hil, h⟩ := hih v c2
        by_cases c3 : f i = n
        · simp only [if_pos c3] at h
          exact absurd h.symm c
        · simp only [if_neg c3] at h
          exact ⟨i, by omega, h⟩
      · have hv' : v = n := by omega
        have hlt : f n < n := by omega
        obtain ⟨i, hil, h⟩ := hih (f n) hlt
        by_cases c3 : f i = n
        · exact ⟨i, by omega, by omega⟩
        · simp only [if_neg c3] at h
          have := hi i n (by omega) (by omega) h
          omega
theorem pow_mod_mod (g N i : Nat) (hN : 1 < N) : (g ^ (i + 1)) % N = (g ^ i % N * g) % N := by rw [Nat.pow_succ, Nat.mod_mul_mod]
/-- The least power that is 1 divides each that is. -/
theorem ord_dvd {g N d m : Nat} (hN : 1 < N) (hd : g ^ d % N = 1) (hd0 : 0 < d) (hmin : ∀ e, 0 < e → e < d → g ^ e % N ≠ 1) (hm : g ^ m % N = 1) : d ∣ m := by
  have e := Nat.div_add_mod m d
  have h1 : g ^ (m % d) % N = 1 := by
    rw [← e, Nat.pow_add, Nat.pow_mul, Nat.mul_mod, Nat.pow_mod, hd, Nat.one_pow, Nat.mod_eq_of_lt hN, Nat.one_mul, Nat.mod_mod] at hm
    exact hm
  by_cases c : m % d = 0
  · exact Nat.dvd_of_mod_eq_zero c
  · exact absurd h1 (hmin _ (by omega) (Nat.mod_lt _ hd0))
theorem root_inj {g N : Nat} (hN : 2 ≤ N) (h1 : g ^ (N - 1) % N = 1) (hq : ∀ q, Pr q → q ∣ N - 1 → g ^ ((N - 1) / q) % N ≠ 1) (d : Nat) (hd0 : 0 < d) (hd : g ^ d % N = 1) : N - 1 ≤ d := by
  obtain ⟨m, ⟨hm0, hm⟩, hmin⟩ := Pl.least (fun d => 0 < d ∧ g ^ d % N = 1) ⟨d, hd0, hd⟩
  have hmd : m ≤ d := Nat.le_of_not_lt fun h => hmin d h ⟨hd0, hd⟩
  have hdvd := ord_dvd (by omega) hm hm0 (fun e h0 hlt he => hmin e hlt ⟨h0, he⟩) h1
  obtain ⟨c, hc⟩ := hdvd
  by_cases hc1 : c = 1
  · subst hc1; omega
  · exfalso
    have hc0 : c ≠ 0 := by rintro rfl; omega
    obtain ⟨q, hqp, ⟨e, he⟩⟩ := Pr.fac c (by omega)
    have hqd : q ∣ N - 1 := ⟨m * e, by rw [hc, he]; grind⟩
    apply hq q hqp hqd
    have : (N - 1) / q = m * e := by
      rw [hc, he]
      have : m * (q * e) = q * (m * e) := by grind
      rw [this]
      exact Nat.mul_div_cancel_left _ (by have := hqp.1; omega)
    rw [this, Nat.pow_mul, Nat.pow_mod, hm, Nat.one_pow, Nat.mod_eq_of_lt (by omega)]
/-- Each number but 0 is a power of the root. -/
theorem root_all {g N : Nat} (hN : 2 ≤ N) (h1 : g ^ (N - 1) % N = 1) (hq : ∀ q, Pr q → q ∣ N - 1 → g ^ ((N - 1) / q) % N ≠ 1) (a : Nat) (ha0 : 0 < a) (ha : a < N) : ∃ i, i < N - 1 ∧ g ^ i % N = a := by
  have hmul : ∀ i j, g ^ (i + j) % N = (g ^ i % N) * (g ^ j % N) % N := fun i j => by rw [Nat.pow_add, Nat.mul_mod]
  have hpos : ∀ i, i < N - 1 → 0 < g ^ i % N := by
    intro i hi
    apply Nat.pos_of_ne_zero
    intro h
    have h2 := hmul i (N - 1 - i)
    rw [h, Nat.zero_mul, Nat.zero_mod, show i + (N - 1 - i) = N - 1 by omega, h1] at h2
    omega
  have hinj : ∀ i j, i ≤ j → j < N - 1 → g ^ i % N = g ^ j % N → i = j := by
    intro i j hij hj h
    apply Classical.byContradiction
    intro hne
    have h3 : g ^ (j - i) % N = 1 := by
      have e1 := hmul j (N - 1 - i)
      have e2 := hmul i (N - 1 - i)
      rw [← h, ← e2, show i + (N - 1 - i) = N - 1 by omega, h1, show j + (N - 1 - i) = (N - 1) + (j - i) by omega, hmul, h1, Nat.one_mul, Nat.mod_mod] at e1
      exact e1
    have := root_inj hN h1 hq (j - i) (by omega) h3
    omega
  obtain ⟨i, hi, h⟩ := pigeon (N - 1) (fun i => g ^ i % N - 1) (fun i hi => by have := Nat.mod_lt (g ^ i) (show 0 < N by omega); have := hpos i hi; show g ^ i % N - 1 < N - 1; omega)
    (fun i j hi hj h => by
      have := hpos i hi
      have := hpos j hj
      have h' : g ^ i % N - 1 = g ^ j % N - 1 := h
      rcases Nat.le_total i j with c | c
      · exact hinj i j c hj (by omega)
      · exact (hinj j i c hi (by omega)).symm) (a - 1) (by omega)
  refine ⟨i, hi, ?_⟩
  have := hpos i hi
  have h' : g ^ i % N - 1 = a - 1 := h
  omega
theorem root_prime {g N : Nat} (hN : 2 ≤ N) (h1 : g ^ (N - 1) % N = 1) (hq : ∀ q, Pr q → q ∣ N - 1 → g ^ ((N - 1) / q) % N ≠ 1) : Pr N := by
  refine ⟨hN, fun d hd => ?_⟩
  obtain ⟨e, he⟩ := hd
  by_cases hdN : d = N
  · exact .inr hdN
  · left
    have hd0 : 0 < d := Nat.pos_of_ne_zero (by rintro rfl; omega)
    have he0 : 0 < e := Nat.pos_of_ne_zero (by rintro rfl; omega)
    have he1 : e ≠ 1 := by rintro rfl; omega
    have hlt : d < N := by rw [he]; exact (Nat.lt_mul_iff_one_lt_right hd0).2 (by omega)
    obtain ⟨i, hi, h⟩ := root_all hN h1 hq d hd0 hlt
    -- d times something is 1
    have h2 : (d * (g ^ (N - 1 - i) % N)) % N = 1 := by
      rw [← h, ← Nat.mul_mod, ← Nat.pow_add, show i + (N - 1 - i) = N - 1 by omega, h1]
    have h3 : d ∣ 1 := by
      have h4 := Nat.div_add_mod (d * (g ^ (N - 1 - i) % N)) N
      rw [h2] at h4
      have h5 : d ∣ N * (d * (g ^ (N - 1 - i) % N) / N) := ⟨e * (d * (g ^ (N - 1 - i) % N) / N), by rw [← Nat.mul_assoc, ← he]⟩
      have h6 : d ∣ N * (d * (g ^ (N - 1 - i) % N) / N) + 1 := by rw [h4]; exact Nat.dvd_mul_right _ _
      exact (Nat.dvd_add_right h5).1 h6
    exact Nat.dvd_one.1 h3

/-! ### Told by a list of primes -/
/-- A power, modulo N, by squares. -/
def pm (N : Nat) : Nat → Nat → Nat → Nat
  | 0, _, _ => 1 % N
  | f + 1, g, e => if e = 0 then 1 % N else if e % 2 = 1 then (g * pm N f (g * g % N) (e / 2)) % N else pm N f (g * g % N) (e / 2)
theorem pm_eq (N : Nat) : ∀ f g e, e < 2 ^ f → pm N f g e = g ^ e % N := by
  intro f
  induction f with
  | zero =>
    intro g e h
    have : e = 0 := by simpa using h
    subst this
    rfl
  | succ f ih =>
    intro g e h
    unfold pm
    by_cases c : e = 0
    · rw [if_pos c, c]
      rfl
    · rw [if_neg c]
      have hlt : e / 2 < 2 ^ f := by rw [Nat.pow_succ] at h; omega
      have e1 := Nat.div_add_mod e 2
      have sq : (g * g) ^ (e / 2) = g ^ (2 * (e / 2)) := by rw [Nat.pow_mul, Nat.pow_two]
      by_cases c2 : e % 2 = 1
      · rw [if_pos c2, ih _ _ hlt, ← Nat.pow_mod, sq, Nat.mul_mod_mod, ← Nat.pow_succ']
        congr 2
        omega
      · rw [if_neg c2, ih _ _ hlt, ← Nat.pow_mod, sq]
        congr 2
        omega
def trialB (n : Nat) : Bool := decide (2 ≤ n) && (List.range n).all fun d => decide (d < 2) || decide (n < d * d) || decide (n % d ≠ 0)
theorem trialB_spec {n : Nat} (h : trialB n = true) : Pr n := by
  unfold trialB at h
  simp only [Bool.and_eq_true, Bool.or_eq_true, decide_eq_true_eq, List.all_eq_true, List.mem_range] at h
  refine Pr.trial h.1 fun d h2 hd => ?_
  have hdn : d < n := by
    have := Nat.mul_le_mul_left d h2
    omega
  rcases h.2 d hdn with (c | c) | c
  · omega
  · omega
  · exact c
theorem prime_in_prod {q : Nat} (hq : Pr q) : ∀ (fs : List Nat), (∀ f ∈ fs, Pr f) → q ∣ fs.foldr (· * ·) 1 → q ∈ fs
  | [], _, h => by
    have := Nat.dvd_one.1 h
    have := hq.1
    omega
  | f :: fs, hp, h => by
    rcases hq.mul h with h1 | h1
    · rcases (hp f List.mem_cons_self).2 q h1 with e | e
      · have := hq.1; omega
      · subst e; exact List.mem_cons_self
    · exact List.mem_cons_of_mem _ (prime_in_prod hq fs (fun f hf => hp f (List.mem_cons_of_mem _ hf)) h1)
def certB (N g : Nat) (fs : List Nat) : Bool := decide (2 ≤ N) && decide (N < 2 ^ 64) && decide (fs.foldr (· * ·) 1 = N - 1) && fs.all trialB && decide (pm N 64 g (N - 1) = 1) && fs.all fun q => decide (pm N 64 g ((N - 1) / q) ≠ 1)
theorem certB_spec {N g : Nat} {fs : List Nat} (h : certB N g fs = true) : Pr N := by
  unfold certB at h
  simp only [Bool.and_eq_true, decide_eq_true_eq, List.all_eq_true] at h
  obtain ⟨⟨⟨⟨⟨h1, h2⟩, h3⟩, h4⟩, h5⟩, h6⟩ := h
  rw [pm_eq _ _ _ _ (by omega)] at h5
  refine root_prime h1 h5 fun q hq hd => ?_
  have hm := prime_in_prod hq fs (fun f hf => trialB_spec (h4 f hf)) (by rw [h3]; exact hd)
  have := h6 q hm
  rwa [pm_eq _ _ _ _ (by have := Nat.div_le_self (N - 1) q; omega)] at this
theorem pr_m31 : Pr 2147483647 := certB_spec (g := 7) (fs := [2, 3, 3, 7, 11, 31, 151, 331]) (by decide +kernel)
theorem pr_m61 : Pr 2305843009213693951 := certB_spec (g := 37) (fs := [2, 3, 3, 5, 5, 7, 11, 13, 31, 41, 61, 151, 331, 1321]) (by decide +kernel)
end Fp

/- Lists of numbers modulo p, and the polynomials that they are. Plain, no program in it. What the printed texts of the polynomials' calls tell, of what is in range: sums, products, quotients. Over the printed functions alone; no memory. -/
import Derived.Test.YtffcjgelcdilcaaPl
import Derived.Test.YtffcjgelcdilcaaField
import Derived.Test.YtffcjgelcdilcaaPSerx3
import Derived.Test.YtffcjgelcdilcaaPSerx1
set_option linter.unusedVariables false
set_option linter.unusedSimpArgs false
set_option linter.unusedSectionVars false
namespace Fp
open Classical
section
variable {p : Nat} [NeZero p]

/-- A whole number, modulo p. -/
def toF (x : Int) : Fin p := Fin.ofNat p x.toNat
/-- All numbers of a list are numbers of the modulus. -/
def In (p : Nat) (l : List Int) : Prop := ∀ x ∈ l, 0 ≤ x ∧ x < p

theorem toF_zero : (toF 0 : Fin p) = 0 := rfl
theorem pos_p : 0 < p := Nat.pos_of_ne_zero (NeZero.ne p)
theorem toF_val {x : Int} (h0 : 0 ≤ x) (h1 : x < p) : ((toF x : Fin p).val : Int) = x := by
  unfold toF
  simp only [Fin.ofNat]
  rw [Nat.mod_eq_of_lt (by omega)]
  omega
theorem toF_inj {x y : Int} (hx : 0 ≤ x ∧ x < p) (hy : 0 ≤ y ∧ y < p) (h : (toF x : Fin p) = toF y) : x = y := by
  rw [← toF_val (p := p) hx.1 hx.2, ← toF_val (p := p) hy.1 hy.2, h]
theorem toF_of_val (a : Fin p) : toF ((a.val : Nat) : Int) = a := by
  apply Fin.ext
  unfold toF
  simp only [Fin.ofNat, Int.toNat_natCast]
  exact Nat.mod_eq_of_lt a.isLt
theorem toF_emod (x : Int) (h : 0 ≤ x) : (toF (x % p) : Fin p) = toF x := by
  obtain ⟨n, rfl⟩ := Int.eq_ofNat_of_zero_le h
  unfold toF
  apply Fin.ext
  simp only [Fin.ofNat]
  rw [← Int.natCast_emod, Int.toNat_natCast, Int.toNat_natCast, Nat.mod_mod]
theorem toF_add' {a b : Int} (ha : 0 ≤ a) (hb : 0 ≤ b) : (toF (a + b) : Fin p) = toF a + toF b := by
  obtain ⟨n, rfl⟩ := Int.eq_ofNat_of_zero_le ha
  obtain ⟨m, rfl⟩ := Int.eq_ofNat_of_zero_le hb
  unfold toF
  apply Fin.ext
  rw [Fin.val_add]
  simp only [Fin.ofNat, Int.toNat_natCast]
  rw [← Int.natCast_add, Int.toNat_natCast, Nat.add_mod]
theorem toF_mul' {a b : Int} (ha : 0 ≤ a) (hb : 0 ≤ b) : (toF (a * b) : Fin p) = toF a * toF b := by
  obtain ⟨n, rfl⟩ := Int.eq_ofNat_of_zero_le ha
  obtain ⟨m, rfl⟩ := Int.eq_ofNat_of_zero_le hb
  unfold toF
  apply Fin.ext
  rw [Fin.val_mul]
  simp only [Fin.ofNat, Int.toNat_natCast]
  rw [← Int.natCast_mul, Int.toNat_natCast, Nat.mul_mod]
theorem toF_add {a b : Int} (ha : 0 ≤ a) (hb : 0 ≤ b) : (toF ((a + b) % p) : Fin p) = toF a + toF b := by rw [toF_emod _ (by omega), toF_add' ha hb]
theorem toF_mul {a b : Int} (ha : 0 ≤ a) (hb : 0 ≤ b) : (toF (a * b % p) : Fin p) = toF a * toF b := by rw [toF_emod _ (Int.mul_nonneg ha hb), toF_mul' ha hb]
theorem emod_range (x : Int) : 0 ≤ x % (p : Int) ∧ x % (p : Int) < p := by
  have := pos_p (p := p)
  exact ⟨Int.emod_nonneg _ (by omega), Int.emod_lt_of_pos _ (by omega)⟩
theorem toF_sub {a b : Int} (ha : 0 ≤ a) (hb : 0 ≤ b) : (toF ((a - b) % p) : Fin p) = toF a - toF b := by
  have h := toF_add (p := p) (a := (a - b) % p) (b := b) (emod_range _).1 hb
  have e : ((a - b) % (p : Int) + b) % p = a % p := by rw [Int.emod_add_emod]; congr 1; omega
  rw [e, toF_emod _ ha] at h
  rw [h]
  grind

theorem In.get {l : List Int} (h : In p l) (i : Nat) : 0 ≤ l.getD i 0 ∧ l.getD i 0 < p := by
  have := pos_p (p := p)
  rw [List.getD_eq_getElem?_getD]
  cases e : l[i]? with
  | none => simp; omega
  | some v => exact h v (List.mem_of_getElem? e)
theorem In.set {l : List Int} (h : In p l) (i : Nat) {v : Int} (hv : 0 ≤ v ∧ v < p) : In p (l.set i v) := fun x hx => by
  rcases List.mem_or_eq_of_mem_set hx with h1 | h1
  · exact h x h1
  · rw [h1]; exact hv
theorem In.take {l : List Int} (h : In p l) (n : Nat) : In p (l.take n) := fun x hx => h x (List.mem_of_mem_take hx)
theorem In.nil : In p [] := fun x hx => by cases hx
theorem In.zeros (n : Nat) : In p (List.replicate n 0) := fun x hx => by
  have := pos_p (p := p)
  rw [List.eq_of_mem_replicate hx]; omega

/-- The polynomial of a list. -/
def toP (l : List Int) : Pl p := ⟨fun i => toF (l.getD i 0), l.length, fun i hi => by rw [List.getD_eq_getElem?_getD, List.getElem?_eq_none hi]; rfl⟩
theorem toP_at (l : List Int) (i : Nat) : (toP l : Pl p).co i = toF (l.getD i 0) := rfl
theorem toP_beyond (l : List Int) {i : Nat} (h : l.length ≤ i) : (toP l : Pl p).co i = 0 := by rw [toP_at, List.getD_eq_getElem?_getD, List.getElem?_eq_none h]; rfl
theorem sz_toP_le (l : List Int) : Pl.sz (toP l : Pl p) ≤ l.length := Pl.sz_le fun i hi => toP_beyond l hi
theorem toP_nil : (toP [] : Pl p) = 0 := Pl.ext fun i => by rw [toP_beyond [] (Nat.zero_le _)]; rfl
theorem toP_zeros (n : Nat) : (toP (List.replicate n 0) : Pl p) = 0 := Pl.ext fun i => by
  rw [toP_at, Pl.zero_at, List.getD_eq_getElem?_getD, List.getElem?_replicate]
  split <;> rfl
theorem toP_take (l : List Int) (n : Nat) (i : Nat) : (toP (l.take n) : Pl p).co i = if i < n then (toP l : Pl p).co i else 0 := by
  rw [toP_at, toP_at, List.getD_eq_getElem?_getD, List.getD_eq_getElem?_getD]
  split
  · rename_i h; rw [List.getElem?_take_of_lt h]
  · rename_i h
    rw [List.getElem?_eq_none (by rw [List.length_take]; omega)]
    rfl
theorem toP_take_succ (l : List Int) (i : Nat) : (toP (l.take (i + 1)) : Pl p) = toP (l.take i) + Pl.T (toF (l.getD i 0)) i := Pl.ext fun j => by
  rw [Pl.add_at, toP_take, toP_take, Pl.T_at]
  by_cases h1 : j < i
  · rw [if_pos (by omega), if_pos h1, if_neg (by omega)]; grind
  · by_cases h2 : j = i
    · subst h2
      rw [if_pos (by omega), if_neg (by omega), if_pos rfl, toP_at]; grind
    · rw [if_neg (by omega), if_neg h1, if_neg h2]; grind
theorem toP_take_all (l : List Int) {n : Nat} (h : l.length ≤ n) : (toP (l.take n) : Pl p) = toP l := by rw [List.take_of_length_le h]
theorem toP_take_zero (l : List Int) : (toP (l.take 0) : Pl p) = 0 := by rw [List.take_zero, toP_nil]
theorem toP_set (l : List Int) {i : Nat} (h : i < l.length) (v : Int) : (toP (l.set i v) : Pl p) = toP l + Pl.T (toF v - toF (l.getD i 0)) i := Pl.ext fun j => by
  rw [Pl.add_at, toP_at, toP_at, Pl.T_at, List.getD_eq_getElem?_getD, List.getD_eq_getElem?_getD, List.getElem?_set]
  by_cases e : j = i
  · subst e
    rw [if_pos rfl, if_pos rfl, if_pos h, List.getD_eq_getElem?_getD]
    simp only [Option.getD_some]
    grind
  · rw [if_neg (fun e' => e e'.symm), if_neg e]; grind

/-- No nought at the end. -/
def Tr (l : List Int) : Prop := l = [] ∨ l.getD (l.length - 1) 0 ≠ 0
theorem sz_toP {l : List Int} (h : In p l) (ht : Tr l) : Pl.sz (toP l : Pl p) = l.length := by
  rcases ht with rfl | ht
  · rw [toP_nil, Pl.sz_zero]; rfl
  · have hne : 0 < l.length := by
      apply Nat.pos_of_ne_zero
      intro e
      apply ht
      rw [List.getD_eq_getElem?_getD, List.getElem?_eq_none (by omega)]; rfl
    have := Pl.sz_eq (f := (toP l : Pl p)) (d := l.length - 1) (by
      rw [toP_at]
      intro e
      rw [← toF_zero] at e
      exact ht (toF_inj (h.get _) ⟨Int.le_refl _, by have := pos_p (p := p); omega⟩ e)) (fun i hi => toP_beyond l (by omega))
    omega
/-- A polynomial's list. -/
noncomputable def toL (f : Pl p) : List Int := (List.range (Pl.sz f)).map fun i => ((f.co i).val : Int)
theorem length_toL (f : Pl p) : (toL f).length = Pl.sz f := by simp [toL]
theorem toL_get (f : Pl p) (i : Nat) : (toL f).getD i 0 = ((f.co i).val : Int) := by
  rw [List.getD_eq_getElem?_getD]
  by_cases h : i < Pl.sz f
  · rw [List.getElem?_eq_getElem (by rw [length_toL]; exact h)]
    simp [toL]
  · rw [List.getElem?_eq_none (by rw [length_toL]; omega), Pl.sz_zero_from f (by omega)]; rfl
theorem In_toL (f : Pl p) : In p (toL f) := fun x hx => by
  obtain ⟨i, _, rfl⟩ := List.mem_map.1 hx
  have := (f.co i).isLt
  omega
theorem Tr_toL (f : Pl p) : Tr (toL f) := by
  by_cases h : Pl.sz f = 0
  · left; exact List.eq_nil_of_length_eq_zero (by rw [length_toL]; exact h)
  · right
    rw [length_toL, toL_get]
    intro e
    have h1 : f.co (Pl.sz f - 1) = 0 := Fin.ext (by have : ((f.co (Pl.sz f - 1)).val : Int) = 0 := e; have h0 : ((0 : Fin p).val) = 0 := rfl; omega)
    exact Pl.sz_top (d := Pl.sz f - 1) (by omega) h1
theorem toP_toL (f : Pl p) : toP (toL f) = f := Pl.ext fun i => by rw [toP_at, toL_get, toF_of_val]
theorem ext_list {l m : List Int} (h : l.length = m.length) (h2 : ∀ i, i < l.length → l.getD i 0 = m.getD i 0) : l = m := by
  apply List.ext_getElem h
  intro i h1 h3
  have := h2 i h1
  rw [List.getD_eq_getElem?_getD, List.getD_eq_getElem?_getD, List.getElem?_eq_getElem h1, List.getElem?_eq_getElem h3] at this
  exact this
theorem toL_toP {l : List Int} (h : In p l) (ht : Tr l) : toL (toP l : Pl p) = l := by
  refine ext_list (by rw [length_toL, sz_toP h ht]) fun i hi => ?_
  rw [toL_get, toP_at, toF_val (h.get i).1 (h.get i).2]
theorem toP_inj {l m : List Int} (hl : In p l) (tl : Tr l) (hm : In p m) (tm : Tr m) (h : (toP l : Pl p) = toP m) : l = m := by
  rw [← toL_toP hl tl, h, toL_toP hm tm]
theorem toL_zero : toL (0 : Pl p) = [] := List.eq_nil_of_length_eq_zero (by rw [length_toL, Pl.sz_zero])
theorem toP_eq_zero {l : List Int} (h : In p l) (ht : Tr l) : (toP l : Pl p) = 0 ↔ l = [] := by
  constructor
  · intro e
    exact toP_inj h ht In.nil (.inl rfl) (e.trans toP_nil.symm)
  · rintro rfl; exact toP_nil
end
end Fp

namespace Go.Proofs.Ytffcjgelcdilcaa.Spec
open Go.RowKit Go.Proofs.Ytffcjgelcdilcaa.PSer Go.Proofs.YtffcjgelcdilcaaW.PrintWords Go.Proofs.YtffcjgelcdilcaaW.PrintLast Go.Proofs.YtffcjgelcdilcaaW.PrintMore Fp

/-- A modulus that may be. -/
def Md (p : Nat) : Prop := 2 ≤ p ∧ (p : Int) < 9223372036854775808
theorem Md.ok {p : Nat} (h : Md p) : okB (p : Int) = true := by unfold okB; rw [decide_eq_true (by have := h.1; omega), decide_eq_true h.2]; rfl
theorem Md.nz {p : Nat} (h : Md p) : NeZero p := ⟨by have := h.1; omega⟩
theorem okB_md {p : Int} (h : okB p = true) : ∃ q : Nat, p = q ∧ Md q := by
  unfold okB at h
  simp only [Bool.and_eq_true, decide_eq_true_eq] at h
  exact ⟨p.toNat, by omega, by unfold Md; omega⟩

section
variable {p : Nat} [NeZero p]

theorem len_pos {l : List Int} (h : l ≠ []) : 0 < l.length := by
  cases l with
  | nil => exact absurd rfl h
  | cons x xs => simp
theorem rd_get (l : List Int) (i : Nat) : rd l (i : Int) = l.getD i 0 := rd_nat l i
/-- Noughts at the end fall away. -/
theorem evTrim (n : Nat) : ∀ l : List Int, l.length = n → In p l → l.length < 4611686018427387904 → Ev (fun k => poly_trim.f k l) (toL (toP l : Pl p)) := by
  induction n with
  | zero =>
    intro l hl h hb
    obtain rfl := List.eq_nil_of_length_eq_zero hl
    rw [toP_nil, toL_zero]
    exact Ev.of (poly_trim.mono _) (k := 1) rfl
  | succ n ih =>
    intro l hl h hb
    have e : wrap64 ((l.length : Int) - 1) = ((n : Nat) : Int) := by rw [w64_in (by omega) (by omega)]; omega
    by_cases c : l.getD n 0 = 0
    · have ht : Ev (fun k => poly_trim.f k (l.take n)) (toL (toP l : Pl p)) := by
        have e2 : (toP l : Pl p) = toP (l.take n) := by
          have h1 := toP_take_succ (p := p) l n
          rw [toP_take_all l (by omega), c, toF_zero] at h1
          rw [h1]
          have : (Pl.T (0 : Fin p) n) = 0 := Pl.ext fun i => by rw [Pl.T_at, Pl.zero_at]; split <;> rfl
          rw [this, Pl.add_zero]
        rw [e2]
        exact ih (l.take n) (by rw [List.length_take]; omega) (h.take n) (by rw [List.length_take]; omega)
      refine Ev.step (f := fun k => poly_trim.f k (l.take n)) (fun k => ?_) ht
      show poly_trim.l0 (k + 1) l = poly_trim.l0 k (l.take n)
      simp only [poly_trim.l0]
      rw [e, if_pos (by omega), if_pos (by omega), if_pos (by omega), rd_get, if_pos c, if_pos (by omega), Int.toNat_natCast]
    · have htr : Tr l := .inr (by rw [hl]; exact c)
      rw [toL_toP h htr]
      refine Ev.step (f := fun k => some l) (fun k => ?_) (Ev.now _)
      show poly_trim.l0 (k + 1) l = some l
      simp only [poly_trim.l0]
      rw [e, if_pos (by omega), if_pos (by omega), if_pos (by omega), rd_get, if_neg c]
theorem evTrim' {l : List Int} (h : In p l) (hb : l.length < 4611686018427387904) : Ev (fun k => poly_trim.f k l) (toL (toP l : Pl p)) := evTrim l.length l rfl h hb

/-! ### A product -/
/-! ### Term by term -/
theorem set_step {m i : Nat} (hi : i < m) (g : Nat → Int) : ((List.range m).map fun j => if j < i then g j else 0).set i (g i) = (List.range m).map fun j => if j < i + 1 then g j else 0 := by
  refine ext_list (by simp) fun j hj => ?_
  have hjm : j < m := by simpa using hj
  rw [List.getD_eq_getElem?_getD, List.getD_eq_getElem?_getD, List.getElem?_set]
  by_cases e : i = j
  · subst e
    rw [if_pos rfl, if_pos (by simpa using hi)]
    simp [hi]
  · rw [if_neg e]
    simp only [List.getElem?_map, List.getElem?_range hjm, Option.map_some, Option.getD_some]
    by_cases c : j < i
    · rw [if_pos c, if_pos (by omega)]
    · rw [if_neg c, if_neg (by omega)]
theorem In_range {m : Nat} {g : Nat → Int} (h : ∀ j, 0 ≤ g j ∧ g j < p) (i : Nat) : In p ((List.range m).map fun j => if j < i then g j else 0) := fun x hx => by
  obtain ⟨j, _, rfl⟩ := List.mem_map.1 hx
  have := pos_p (p := p)
  split
  · exact h j
  · omega
theorem toP_range {m : Nat} {g : Nat → Int} (i : Nat) : (toP ((List.range m).map fun j => if j < m then g j else 0) : Pl p).co i = if i < m then toF (g i) else 0 := by
  rw [toP_at, List.getD_eq_getElem?_getD]
  by_cases c : i < m
  · rw [if_pos c]; simp [c]
  · rw [if_neg c, List.getElem?_eq_none (by simp; omega)]; rfl
theorem mx_len (a b : List Int) : mx (a.length : Int) (b.length : Int) = ((max a.length b.length : Nat) : Int) := by unfold mx; split <;> omega
theorem getD_beyond (a : List Int) {i : Nat} (h : a.length ≤ i) : a.getD i 0 = 0 := by rw [List.getD_eq_getElem?_getD, List.getElem?_eq_none h]; rfl

/-! ### Times a number -/
theorem evClone {a : List Int} (h : a.length < 17592186044416) : slices_Clone_uint64_uint64.f a = some a := by
  unfold slices_Clone_uint64_uint64.f
  simp [h]
/-! ### A quotient and a rest -/
end
end Go.Proofs.Ytffcjgelcdilcaa.Spec

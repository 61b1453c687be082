/- The queue, told of rows that are read. -/
import Derived.Test.YtghkngdcmlhmeaaQSpec
import Derived.Test.YtghkngdcmlhmeaaPQux14
set_option linter.unusedVariables false
set_option linter.unusedSimpArgs false
set_option linter.unusedSectionVars false
namespace Go.Proofs.Ytghkngdcmlhmeaa.Qw
open Go Go.RowKit Go.Proofs Go.Proofs.Ytghkngdcmlhmeaa.PQu Go.Proofs.YtghkngdcmlhmeaaW.PrintWords Go.Proofs.YtghkngdcmlhmeaaW.PrintLast Go.Proofs.YtghkngdcmlhmeaaW.PrintMore Go.Proofs.Ytghkngdcmlhmeaa.Qp Go.Proofs.Ytghkngdcmlhmeaa.Qs Go.Proofs.Ytghkngdcmlhmeaa.Spec
theorem shortC (w : World) (A : Option Addr) (c : Nat) (l : List S25) (hr : Kd.C k25 w A l.length l) (hc : l.length ≤ c) : Calls Try.prog 9 #[.slice A l.length c] w fun e w' => e = .returned (.bool (shortB l)) ∧ Below w.heap.size w w' := by
  obtain ⟨K, hK⟩ := evShort l
  exact (affidavitref20_Short.calls K A c l _ w hr hc (hK K (Nat.le_refl _))).mono (fun e w' ⟨h1, h2⟩ => ⟨h1, h2.below⟩)
theorem less.calls (w : World) (x y : S25) (A2 : Option Addr) (c2 : Nat) (A3 : Option Addr) (c3 : Nat) (h2 : Kd.C (Kd.int .u8) w A2 x.f3.length x.f3) (l2 : x.f3.length ≤ c2) (h3 : Kd.C (Kd.int .u8) w A3 y.f3.length y.f3) (l3 : y.f3.length ≤ c3) :
    Calls Try.prog 15 #[.agg #[.int .i64 x.f0, .int .i64 x.f1, .int .i64 x.f2, .slice A2 x.f3.length c2], .agg #[.int .i64 y.f0, .int .i64 y.f1, .int .i64 y.f2, .slice A3 y.f3.length c3]] w fun e w' => e = .returned (.bool (ltL x y)) ∧ Below w.heap.size w w' := by
  obtain ⟨K, hK⟩ := evLess x y
  exact queue_Less.calls K _ _ _ A2 c2 _ _ _ _ A3 c3 _ _ w h2 l2 h3 l3 (hK K (Nat.le_refl _))
theorem one.calls (w : World) (x y : S25) (A2 : Option Addr) (c2 : Nat) (A3 : Option Addr) (c3 : Nat) (h2 : Kd.C (Kd.int .u8) w A2 x.f3.length x.f3) (l2 : x.f3.length ≤ c2) (h3 : Kd.C (Kd.int .u8) w A3 y.f3.length y.f3) (l3 : y.f3.length ≤ c3) :
    Calls Try.prog 20 #[.agg #[.int .i64 x.f0, .int .i64 x.f1, .int .i64 x.f2, .slice A2 x.f3.length c2], .agg #[.int .i64 y.f0, .int .i64 y.f1, .int .i64 y.f2, .slice A3 y.f3.length c3]] w fun e w' => e = .returned (.bool (eqL x y)) ∧ Below w.heap.size w w' :=
  affidavitref20_One.calls _ _ _ A2 c2 _ _ _ _ A3 c3 _ _ w h2 l2 h3 l3 (one_spec x y)
theorem sameC (w : World) (A : Option Addr) (c : Nat) (B : Option Addr) (d : Nat) (l : List S25) (hr : Kd.C k25 w A l.length l) (hc : l.length ≤ c) (hr2 : Kd.C k25 w B l.length l) (hc2 : l.length ≤ d) (hl : l.length < 1099511627776) : Calls Try.prog 17 #[.slice A l.length c, .slice B l.length d] w fun e w' => e = .returned (.bool true) ∧ Below w.heap.size w w' := by
  obtain ⟨K, hK⟩ := evSame l hl
  exact affidavitref20_Same.calls K A c l B d l true w hr hc hr2 hc2 (hK K (Nat.le_refl _))
theorem nextC (w : World) (A : Option Addr) (c : Nat) (l : List S25) (hr : Kd.C k25 w A l.length l) (hc : l.length ≤ c) (h : bndB l = true) : Calls Try.prog 14 #[.slice A l.length c] w fun e w' => e = .returned (.tuple #[.int .i64 (firstT (Hp.srt ltL l)).1, .bool (firstT (Hp.srt ltL l)).2.2.2.2.2]) ∧ Below w.heap.size w w' :=
  queue_Next.calls A c l _ _ w hr hc (next_spec h)
theorem nextD (w : World) (A : Option Addr) (c : Nat) (l : List S25) (hr : Kd.C k25 w A l.length l) (hc : l.length ≤ c) (h : bndB l = true) (n : Int) (b : Bool) (h1 : (firstT (Hp.srt ltL l)).1 = n) (h2 : (firstT (Hp.srt ltL l)).2.2.2.2.2 = b) : Calls Try.prog 14 #[.slice A l.length c] w fun e w' => e = .returned (.tuple #[.int .i64 n, .bool b]) ∧ Below w.heap.size w w' := by
  subst h1 h2
  exact nextC w A c l hr hc h
theorem sortC (w : World) (A : Option Addr) (c : Nat) (l : List S25) (hr : Kd.C k25 w A l.length l) (hc : l.length ≤ c) (h : bndB l = true) : Calls Try.prog 18 #[.slice A l.length c] w fun e w' => ∃ B d, e = .returned (.slice B (Hp.srt ltL l).length d) ∧ (Hp.srt ltL l).length ≤ d ∧ Kd.C k25 w' B (Hp.srt ltL l).length (Hp.srt ltL l) ∧ Below w.heap.size w w' := by
  refine (sorted.calls A c l _ w hr hc (if_pos h)).mono ?_
  rintro e w' ⟨v, rfl, hv, hb⟩
  obtain ⟨B, d, rfl⟩ := Kd.V_slice hv
  exact ⟨B, d, rfl, (Kd.V_reads' hv).2.1, (Kd.V_reads' hv).2.2, hb⟩
theorem putC (w : World) (A : Option Addr) (c : Nat) (l : List S25) (x : S25) (A3 : Option Addr) (c3 : Nat) (hr : Kd.C k25 w A l.length l) (hc : l.length ≤ c) (h3 : Kd.C (Kd.int .u8) w A3 x.f3.length x.f3) (l3 : x.f3.length ≤ c3) (h : bndB (x :: l) = true) : Calls Try.prog 19 #[.slice A l.length c, .agg #[.int .i64 x.f0, .int .i64 x.f1, .int .i64 x.f2, .slice A3 x.f3.length c3]] w fun e w' => ∃ B d, e = .returned (.slice B (Hp.srt ltL (x :: l)).length d) ∧ (Hp.srt ltL (x :: l)).length ≤ d ∧ Kd.C k25 w' B (Hp.srt ltL (x :: l)).length (Hp.srt ltL (x :: l)) ∧ Below w.heap.size w w' := by
  refine (put.calls A c l x A3 c3 _ w hr hc h3 l3 (if_pos h)).mono ?_
  rintro e w' ⟨v, rfl, hv, hb⟩
  obtain ⟨B, d, rfl⟩ := Kd.V_slice hv
  exact ⟨B, d, rfl, (Kd.V_reads' hv).2.1, (Kd.V_reads' hv).2.2, hb⟩
def dueD (l : List S25) (now : Int) : List S25 := (Hp.srt ltL l).filter (fun x => decide (x.f0 ≤ now))
def dueR (l : List S25) (now : Int) : List S25 := (Hp.srt ltL l).filter (fun x => !decide (x.f0 ≤ now))
theorem dueC (w : World) (A : Option Addr) (c : Nat) (l : List S25) (now : Int) (hr : Kd.C k25 w A l.length l) (hc : l.length ≤ c) (h : bndB l = true) : Calls Try.prog 11 #[.slice A l.length c, .int .i64 now] w fun e w' => ∃ B d B' d', e = .returned (.tuple #[.slice B (dueD l now).length d, .slice B' (dueR l now).length d']) ∧ (dueD l now).length ≤ d ∧ (dueR l now).length ≤ d' ∧ Kd.C k25 w' B (dueD l now).length (dueD l now) ∧ Kd.C k25 w' B' (dueR l now).length (dueR l now) ∧ Below w.heap.size w w' := by
  refine (due.calls A c l now _ w hr hc (if_pos h)).mono ?_
  rintro e w' ⟨v, v', rfl, hv, hv', hb⟩
  obtain ⟨B, d, rfl⟩ := Kd.V_slice hv
  obtain ⟨B', d', rfl⟩ := Kd.V_slice hv'
  exact ⟨B, d, B', d', rfl, (Kd.V_reads' hv).2.1, (Kd.V_reads' hv').2.1, (Kd.V_reads' hv).2.2, (Kd.V_reads' hv').2.2, hb⟩
theorem srt_same {l m : List S25} (hg : ∀ x ∈ l, good x) (h : l.Perm m) : Hp.srt ltL l = Hp.srt ltL m :=
  one_order (fun x hx => hg x ((Hp.srt_perm l).mem_iff.mp hx)) (Hp.srt_sorted lt_asym lt_trans' l) (Hp.srt_sorted lt_asym lt_trans' m) ((Hp.srt_perm l).trans (h.trans (Hp.srt_perm m).symm))
theorem short_iff {l : List S25} (h : shortB l = true) : l.length ≤ 40 := by
  unfold shortB at h
  rw [Bool.and_eq_true, decide_eq_true_iff] at h
  exact h.1
theorem lt_lt {x y z : S25} (h1 : ltL x y = true) (h2 : ltL y z = true) : ltL x z = true := by
  cases h : ltL x z with
  | true => rfl
  | false =>
    have h3 := lt_trans' y z x (lt_asym _ _ h2) h
    rw [h1] at h3
    exact h3.symm
theorem same_of {x y : S25} (gx : good x) (gy : good y) (h1 : ltL x y = false) (h2 : ltL y x = false) : eqL x y = true := by
  rw [eqL_iff gx gy]
  rw [ltL_eq] at h1 h2
  have h1' := of_decide_eq_false h1
  have h2' := of_decide_eq_false h2
  have n := cmp_cm.neg x y
  exact cm_zero gx gy (by omega)
theorem due_split (l : List S25) (now : Int) : (dueD l now).length + (dueR l now).length = l.length := by
  unfold dueD dueR
  rw [← (Hp.srt_perm (lt := ltL) l).length_eq, ← List.length_append, (due_parts now (Hp.srt_sorted lt_asym lt_trans' l))]
def wf25 (x : S25) : Prop := ((Lit.int .i64 x.f0).wf = true) ∧ (((Lit.int .i64 x.f1).wf = true) ∧ (((Lit.int .i64 x.f2).wf = true) ∧ ((x.f3.length ≤ maxLen ∧ x.f3.length * 1 ≤ 140737488351232 ∧ ∀ y_ ∈ x.f3, (Lit.int .u8 y_).wf = true))))
theorem wf25.good {x : S25} (h : wf25 x) : good x := good_of h.2.2.2
theorem wfL.good {l : List S25} (h : l.length ≤ maxLen ∧ l.length * 48 ≤ 140737488351232 ∧ ∀ y_ ∈ l, wf25 y_) : ∀ y ∈ l, Qp.good y := fun y hy => (h.2.2 y hy).good
end Go.Proofs.Ytghkngdcmlhmeaa.Qw

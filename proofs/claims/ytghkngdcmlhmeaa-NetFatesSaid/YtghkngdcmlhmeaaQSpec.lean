/- What the references of chapter 20 say of letters; the queue's functions told of rows in order. No memory. -/
import Derived.Test.YtghkngdcmlhmeaaSmall
import Derived.Test.YtghkngdcmlhmeaaQFirst
import Derived.Test.YtghkngdcmlhmeaaQDue
import Derived.Test.YtghkngdcmlhmeaaPQux12
import Derived.Test.YtghkngdcmlhmeaaPQux14
import Derived.Test.YtghkngdcmlhmeaaPQux7
import Derived.Test.YtghkngdcmlhmeaaPQux10
import Derived.Test.YtghkngdcmlhmeaaPQux8
import Derived.Test.YtghkngdcmlhmeaaPQux5
import Derived.Test.YtghkngdcmlhmeaaPQux6
set_option linter.unusedVariables false
set_option linter.unusedSimpArgs false
set_option linter.unusedSectionVars false
namespace Go.Proofs.Ytghkngdcmlhmeaa.Qs
open Go Go.RowKit Go.Proofs.Ytghkngdcmlhmeaa.PQu Go.Proofs.YtghkngdcmlhmeaaW.PrintWords Go.Proofs.YtghkngdcmlhmeaaW.PrintLast Go.Proofs.YtghkngdcmlhmeaaW.PrintMore Go.Proofs.Ytghkngdcmlhmeaa.Qp Go.Proofs.Ytghkngdcmlhmeaa.Spec
theorem w64_in {n : Int} (h0 : -9223372036854775808 ≤ n) (h1 : n < 9223372036854775808) : wrap64 n = n := by unfold wrap64; omega
theorem up1 (i : Nat) (h : i < 1099511627776) : wrap64 ((i : Int) + 1) = ((i + 1 : Nat) : Int) := by rw [w64_in (by omega) (by omega)]; omega
theorem rdT (l : List S25) (i : Nat) : rd_T25 l (i : Int) = l.getD i z25 := by unfold rd_T25; rw [Int.toNat_natCast]
theorem wf8 {x : Int} (h : (Lit.int .u8 x).wf = true) : 0 ≤ x ∧ x ≤ 255 := by
  have h1 : (decide (IntKind.u8.min ≤ x) && decide (x ≤ IntKind.u8.max)) = true := h
  rw [Bool.and_eq_true, decide_eq_true_eq, decide_eq_true_eq] at h1
  have h2 : IntKind.u8.min = 0 := by decide
  have h3 : IntKind.u8.max = 255 := by decide
  omega
theorem good_of {x : S25} (h : x.f3.length ≤ maxLen ∧ x.f3.length * 1 ≤ 140737488351232 ∧ ∀ y ∈ x.f3, (Lit.int .u8 y).wf = true) : good x := ⟨by omega, fun c hc => wf8 (h.2.2 c hc)⟩
/-- No more than 40 letters of 300 bytes. -/
def shortB (l : List S25) : Bool := decide (l.length ≤ 40) && l.all (fun x => decide (x.f3.length ≤ 300))
theorem evShort (l : List S25) : Ev (fun k => affidavitref20_Short.f k l) (shortB l) := by
  unfold shortB
  by_cases h : l.length ≤ 40
  · have h1 : ¬ (l.length : Int) > 40 := by omega
    refine Ev.congr (f := fun k => affidavitref20_Short.l0 k l 0) (fun k => if_neg h1) ?_
    rw [decide_eq_true h, Bool.true_and]
    have key : ∀ d i : Nat, i + d = l.length → Ev (fun k => affidavitref20_Short.l0 k l (i : Int)) ((l.drop i).all (fun x => decide (x.f3.length ≤ 300))) := by
      intro d
      induction d with
      | zero =>
        intro i hi
        rw [List.drop_eq_nil_of_le (by omega)]
        exact Ev.step (fun k => affidavitref20_Short.l0.eq_2 ..) (Ev.iteF (by omega) (Ev.now _))
      | succ d ih =>
        intro i hi
        have hlt : i < l.length := by omega
        rw [List.drop_eq_getElem_cons hlt, List.all_cons]
        refine Ev.step (fun k => affidavitref20_Short.l0.eq_2 ..) (Ev.iteT (by omega) (Ev.iteT (by omega) ?_))
        rw [rdT, Hp.getD_lt _ _ _ hlt, up1 i (by omega)]
        by_cases h2 : ((l[i].f3.length : Nat) : Int) > 300
        · have : decide (l[i].f3.length ≤ 300) = false := decide_eq_false (by omega)
          rw [this, Bool.false_and]
          exact Ev.iteT h2 (Ev.now _)
        · have : decide (l[i].f3.length ≤ 300) = true := decide_eq_true (by omega)
          rw [this, Bool.true_and]
          exact Ev.iteF h2 (ih (i + 1) (by omega))
    exact key l.length 0 (by omega)
  · rw [decide_eq_false h, Bool.false_and]
    have h1 : (l.length : Int) > 40 := by omega
    exact Ev.congr (f := fun _ => some false) (fun k => if_pos h1) (Ev.now _)
/-- Are two letters the same? -/
def eqL (x y : S25) : Bool := decide (x.f0 = y.f0) && decide (x.f1 = y.f1) && decide (x.f2 = y.f2) && decide (Lib.bytesOf x.f3 = Lib.bytesOf y.f3)
theorem one_spec (x y : S25) : affidavitref20_One.f x.f0 x.f1 x.f2 x.f3 y.f0 y.f1 y.f2 y.f3 = some (eqL x y) := by
  unfold affidavitref20_One.f eqL
  rw [Lib.strOfNums_toList, Lib.strOfNums_toList]
  by_cases h0 : x.f0 = y.f0
  · by_cases h1 : x.f1 = y.f1
    · by_cases h2 : x.f2 = y.f2
      · simp only [h0, h1, h2, if_true, decide_true, Bool.true_and, Option.some.injEq]
        rw [Bool.eq_iff_iff]; simp
      · simp [h0, h1, h2]
    · simp [h0, h1]
  · simp [h0]
theorem eqL_refl (x : S25) : eqL x x = true := by simp [eqL]
theorem eqL_iff {x y : S25} (hx : good x) (hy : good y) : eqL x y = true ↔ x = y := by
  constructor
  · intro h
    simp only [eqL, Bool.and_eq_true, decide_eq_true_eq] at h
    obtain ⟨⟨⟨h0, h1⟩, h2⟩, h3⟩ := h
    have := bytes_inj _ _ hx.2 hy.2 h3
    cases x; cases y; simp_all
  · rintro rfl; exact eqL_refl _
theorem evSame (l : List S25) (hl : l.length < 1099511627776) : Ev (fun k => affidavitref20_Same.f k l l) true := by
  refine Ev.congr (f := fun k => affidavitref20_Same.l0 k l l 0) (fun k => if_pos rfl) ?_
  have key : ∀ d i : Nat, i + d = l.length → Ev (fun k => affidavitref20_Same.l0 k l l (i : Int)) true := by
    intro d
    induction d with
    | zero =>
      intro i hi
      exact Ev.step (fun k => affidavitref20_Same.l0.eq_2 ..) (Ev.iteF (by omega) (Ev.now _))
    | succ d ih =>
      intro i hi
      refine Ev.step (fun k => affidavitref20_Same.l0.eq_2 ..) (Ev.iteT (by omega) (Ev.iteT (by omega) (Ev.iteT (by omega) ?_)))
      rw [one_spec, eqL_refl, up1 i (by omega)]
      exact Ev.bind (Ev.now _) (Ev.iteT rfl (ih (i + 1) (by omega)))
  exact key l.length 0 (by omega)
theorem evLess (x y : S25) : Ev (fun k => queue_Less.f k x.f0 x.f1 x.f2 x.f3 y.f0 y.f1 y.f2 y.f3) (ltL x y) := by
  refine ⟨6, fun k hk => ?_⟩
  show (queue_order.f k x.f0 x.f1 x.f2 x.f3 y.f0 y.f1 y.f2 y.f3).bind (fun t => some (decide (t < 0))) = _
  rw [Qo.order_spec _ _ _ _ _ _ _ _ k hk]
  rfl
abbrev Sorted (l : List S25) : Prop := l.Pairwise (fun a b => ltL b a = false)
theorem srt_id {l : List S25} (hg : ∀ x ∈ l, good x) (h : Sorted l) : Hp.srt ltL l = l :=
  (one_order hg h (Hp.srt_sorted lt_asym lt_trans' l) (Hp.srt_perm l).symm).symm
theorem put_spec {l : List S25} {x : S25} (h : bndB (x :: l) = true) : queue_Put.f l x.f0 x.f1 x.f2 x.f3 = some (Hp.srt ltL (x :: l)) := if_pos h
theorem sorted_spec {l : List S25} (h : bndB l = true) : queue_Sorted.f l = some (Hp.srt ltL l) := if_pos h
theorem due_spec {l : List S25} (h : bndB l = true) (now : Int) : queue_Due.f l now = some ((Hp.srt ltL l).filter (fun x => decide (x.f0 ≤ now)), (Hp.srt ltL l).filter (fun x => !decide (x.f0 ≤ now))) := if_pos h
def firstT (l : List S25) : Int × Int × Int × List Int × List S25 × Bool := match l with
  | [] => (0, 0, 0, [], [], false)
  | x :: r => (x.f0, x.f1, x.f2, x.f3, r, true)
theorem first_spec' {l : List S25} (h : bndB l = true) : queue_First.f l = some (firstT (Hp.srt ltL l)) := by
  show (firstF l).map _ = _
  unfold firstF
  rw [if_pos h]
  show some _ = some _
  unfold firstR firstT
  cases Hp.srt ltL l <;> rfl
theorem next_spec {l : List S25} (h : bndB l = true) : queue_Next.f l = some ((firstT (Hp.srt ltL l)).1, (firstT (Hp.srt ltL l)).2.2.2.2.2) := by
  unfold queue_Next.f
  rw [first_spec' h]
  rfl
/-- Of a row in order what is at most now stands ahead of the rest. -/
theorem due_parts (now : Int) : ∀ {l : List S25}, Sorted l → l.filter (fun x => decide (x.f0 ≤ now)) ++ l.filter (fun x => !decide (x.f0 ≤ now)) = l
  | [], _ => rfl
  | x :: l, h => by
    have h2 := List.pairwise_cons.mp h
    by_cases hx : x.f0 ≤ now
    · rw [List.filter_cons_of_pos (by simpa using hx), List.filter_cons_of_neg (by simpa using hx), List.cons_append, due_parts now h2.2]
    · have hall : ∀ y ∈ l, ¬ y.f0 ≤ now := fun y hy => by
        have := at_le (h2.1 y hy)
        omega
      rw [List.filter_cons_of_neg (by simpa using hx), List.filter_cons_of_pos (by simpa using hx), List.filter_eq_nil_iff.mpr (fun y hy => by simpa using hall y hy), List.filter_eq_self.mpr (fun y hy => by simpa using hall y hy), List.nil_append]
theorem bndB_sub {l m : List S25} (h : bndB l = true) (hlen : m.length ≤ l.length) (hsub : ∀ x ∈ m, x ∈ l) : bndB m = true := by
  have h1 := bndB_iff.mp h
  exact bndB_iff.mpr ⟨by omega, fun x hx => h1.2 x (hsub x hx)⟩
theorem bndB_perm {l m : List S25} (h : bndB l = true) (hp : m.Perm l) : bndB m = true := bndB_sub h (Nat.le_of_eq hp.length_eq) (fun x hx => hp.mem_iff.mp hx)
end Go.Proofs.Ytghkngdcmlhmeaa.Qs

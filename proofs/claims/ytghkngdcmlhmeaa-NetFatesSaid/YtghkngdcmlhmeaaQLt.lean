/- Letters in order: the order is one; what the pile gives is the row put in order. No memory. -/
import Derived.Test.YtghkngdcmlhmeaaQTaken
set_option linter.unusedVariables false
set_option linter.unusedSimpArgs false
set_option linter.unusedSectionVars false
namespace Go.Proofs.Ytghkngdcmlhmeaa.Qp
open Go Go.RowKit Go.Proofs.Ytghkngdcmlhmeaa.PQu Go.Proofs.YtghkngdcmlhmeaaW.PrintWords Go.Proofs.YtghkngdcmlhmeaaW.PrintLast Go.Proofs.YtghkngdcmlhmeaaW.PrintMore
/-- A way to compare. -/
structure Cmp {α : Type} (c : α → α → Int) : Prop where
  neg : ∀ x y, c y x = - c x y
  le : ∀ x y z, c x y ≤ 0 → c y z ≤ 0 → c x z ≤ 0
def lexc {α : Type} (c d : α → α → Int) (x y : α) : Int := if c x y = 0 then d x y else c x y
theorem Cmp.lexc {α : Type} {c d : α → α → Int} (hc : Cmp c) (hd : Cmp d) : Cmp (lexc c d) := by
  constructor
  · intro x y
    unfold Qp.lexc
    have h1 := hc.neg x y
    have h2 := hd.neg x y
    by_cases h : c x y = 0
    · rw [if_pos (by omega), if_pos h, h2]
    · rw [if_neg (by omega), if_neg h, h1]
  · intro x y z
    unfold Qp.lexc
    intro h1 h2
    have k1 : c x y ≤ 0 := by split at h1 <;> omega
    have k2 : c y z ≤ 0 := by split at h2 <;> omega
    have k3 := hc.le x y z k1 k2
    by_cases h : c x z = 0
    · rw [if_pos h]
      have n1 := hc.neg x z
      have n2 := hc.neg x y
      have n3 := hc.neg y z
      have k4 := hc.le z x y (by omega) k1
      have k5 := hc.le y z x k2 (by omega)
      rw [if_pos (by omega)] at h1 h2
      exact hd.le x y z h1 h2
    · rw [if_neg h]; exact k3
theorem Cmp.on {α β : Type} {c : β → β → Int} (hc : Cmp c) (f : α → β) : Cmp (fun x y => c (f x) (f y)) := ⟨fun x y => hc.neg _ _, fun x y z => hc.le _ _ _⟩
theorem cmp_ci : Cmp Qo.ci := by
  constructor
  · intro x y; unfold Qo.ci; split <;> split <;> (try split) <;> omega
  · intro x y z; unfold Qo.ci; split <;> split <;> split <;> (try split) <;> (try split) <;> omega
theorem cb_neg : ∀ a b : List UInt8, Lib.compareBytes b a = - Lib.compareBytes a b
  | [], [] => rfl
  | [], _ :: _ => rfl
  | _ :: _, [] => rfl
  | a :: xs, b :: bs => by
    have ih := cb_neg xs bs
    unfold Lib.compareBytes
    by_cases h1 : a < b
    · have h2 : ¬ b < a := fun h => absurd (UInt8.lt_trans h1 h) (UInt8.lt_irrefl _)
      simp [h1, h2]
    · by_cases h2 : b < a
      · simp [h1, h2]
      · simp [h1, h2]; exact ih
theorem cb_le : ∀ a b c : List UInt8, Lib.compareBytes a b ≤ 0 → Lib.compareBytes b c ≤ 0 → Lib.compareBytes a c ≤ 0
  | [], _, [] => fun _ _ => by simp [Lib.compareBytes]
  | [], _, _ :: _ => fun _ _ => by simp [Lib.compareBytes]
  | _ :: _, [], _ => fun h _ => by simp [Lib.compareBytes] at h
  | _ :: _, _ :: _, [] => fun _ h => by simp [Lib.compareBytes] at h
  | a :: xs, b :: bs, c :: cs => by
    have ih := cb_le xs bs cs
    unfold Lib.compareBytes
    intro h1 h2
    simp only [UInt8.lt_iff_toNat_lt] at h1 h2 ⊢
    split at h1
    · split at h2
      · rw [if_pos (by omega)]; omega
      · split at h2
        · omega
        · rw [if_pos (by omega)]; omega
    · split at h1
      · omega
      · split at h2
        · rw [if_pos (by omega)]; omega
        · split at h2
          · omega
          · rw [if_neg (by omega), if_neg (by omega)]
            exact ih h1 h2
theorem cb_eq : ∀ a b : List UInt8, Lib.compareBytes a b = 0 → a = b
  | [], [] => fun _ => rfl
  | [], _ :: _ => fun h => by simp [Lib.compareBytes] at h
  | _ :: _, [] => fun h => by simp [Lib.compareBytes] at h
  | a :: xs, b :: bs => fun h => by
    unfold Lib.compareBytes at h
    split at h
    · simp at h
    · split at h
      · simp at h
      · rename_i h1 h2
        have : a = b := by
          apply UInt8.toNat_inj.mp
          simp only [UInt8.lt_iff_toNat_lt] at h1 h2
          omega
        rw [this, cb_eq xs bs h]
theorem cmp_cb : Cmp Bc.cmpB := ⟨fun x y => cb_neg _ _, fun x y z => cb_le _ _ _⟩
/-- The order of letters, as a comparison. -/
def cm (x y : S25) : Int := Qo.ord x.f0 x.f1 x.f2 x.f3 y.f0 y.f1 y.f2 y.f3
theorem cmp_cm : Cmp cm := by
  have h : cm = lexc (fun x y : S25 => Qo.ci x.f0 y.f0) (lexc (fun x y : S25 => Qo.ci x.f1 y.f1) (lexc (fun x y : S25 => Qo.ci x.f2 y.f2) (lexc (fun x y : S25 => Qo.ci (x.f3.length : Int) (y.f3.length : Int)) (fun x y : S25 => Bc.cmpB x.f3 y.f3)))) := by
    funext x y
    simp only [cm, Qo.ord, Qo.firstOf, lexc]
    split <;> (try rfl)
    split <;> (try rfl)
    split <;> (try rfl)
    split <;> (try rfl)
    split
    · rename_i h; rw [h]
    · rfl
  rw [h]
  exact (cmp_ci.on (fun x : S25 => x.f0)).lexc ((cmp_ci.on (fun x : S25 => x.f1)).lexc ((cmp_ci.on (fun x : S25 => x.f2)).lexc ((cmp_ci.on (fun x : S25 => (x.f3.length : Int))).lexc (cmp_cb.on (fun x : S25 => x.f3)))))
theorem ltL_eq (x y : S25) : ltL x y = decide (cm x y < 0) := rfl
theorem lt_asym : ∀ a b, ltL a b = true → ltL b a = false := by
  intro a b h
  rw [ltL_eq] at h ⊢
  have h1 := cmp_cm.neg a b
  have h2 := of_decide_eq_true h
  exact decide_eq_false (by omega)
theorem lt_trans' : ∀ a b c, ltL b a = false → ltL c b = false → ltL c a = false := by
  intro a b c h1 h2
  rw [ltL_eq] at h1 h2 ⊢
  have h1' := of_decide_eq_false h1
  have h2' := of_decide_eq_false h2
  have n1 := cmp_cm.neg a b
  have n2 := cmp_cm.neg b c
  have n3 := cmp_cm.neg a c
  have := cmp_cm.le a b c (by omega) (by omega)
  exact decide_eq_false (by omega)
/-- A letter whose bytes are bytes. -/
def good (x : S25) : Prop := x.f3.length < 140737488355328 ∧ ∀ c ∈ x.f3, 0 ≤ c ∧ c ≤ 255
theorem bytes_inj : ∀ a b : List Int, (∀ c ∈ a, 0 ≤ c ∧ c ≤ 255) → (∀ c ∈ b, 0 ≤ c ∧ c ≤ 255) → Lib.bytesOf a = Lib.bytesOf b → a = b
  | [], [], _, _, _ => rfl
  | [], _ :: _, _, _, h => by simp [Lib.bytesOf] at h
  | _ :: _, [], _, _, h => by simp [Lib.bytesOf] at h
  | a :: xs, b :: ys, ha, hb, h => by
    simp only [Lib.bytesOf, List.map_cons, List.cons.injEq] at h
    have h1 := ha a List.mem_cons_self
    have h2 := hb b List.mem_cons_self
    have h3 := congrArg UInt8.toNat h.1
    simp only [UInt8.toNat_ofNat'] at h3
    have e : a = b := by omega
    rw [e, bytes_inj xs ys (fun c hc => ha c (List.mem_cons_of_mem _ hc)) (fun c hc => hb c (List.mem_cons_of_mem _ hc)) h.2]
theorem ci_zero {a b : Int} (h : Qo.ci a b = 0) : a = b := by
  unfold Qo.ci at h
  split at h
  · omega
  · split at h <;> omega
theorem cm_zero {x y : S25} (hx : good x) (hy : good y) (h : cm x y = 0) : x = y := by
  simp only [cm, Qo.ord, Qo.firstOf] at h
  split at h
  · rename_i h0
    split at h
    · rename_i h1
      split at h
      · rename_i h2
        split at h
        · split at h
          · rename_i h4
            have e3 := bytes_inj _ _ hx.2 hy.2 (cb_eq _ _ h4)
            cases x; cases y
            have := ci_zero h0; have := ci_zero h1; have := ci_zero h2
            simp_all
          · rename_i h4; exact absurd h h4
        · rename_i h3; exact absurd h h3
      · rename_i h2; exact absurd h h2
    · rename_i h1; exact absurd h h1
  · rename_i h0; exact absurd h h0
/-- Rows in order of the same letters are one row. -/
theorem one_order {l m : List S25} (hg : ∀ x ∈ l, good x) (hl : l.Pairwise (fun a b => ltL b a = false)) (hm : m.Pairwise (fun a b => ltL b a = false)) (h : l.Perm m) : l = m :=
  List.Perm.eq_of_pairwise (fun a b ha hb h1 h2 => by
    rw [ltL_eq] at h1 h2
    have h1' := of_decide_eq_false h1
    have h2' := of_decide_eq_false h2
    have n := cmp_cm.neg a b
    exact cm_zero (hg a ha) (hg b (h.mem_iff.mpr hb)) (by omega)) hl hm h
theorem taken_all (l : List S25) (hg : ∀ x ∈ l, good x) {hp : List S25} (hk : Hp.Ok ltL z25 hp hp.length 0) (hpm : hp.Perm l) (n : Nat) (hn : hp.length ≤ n) : (Hp.tk ltL z25 (fun _ => true) n hp).1 = Hp.srt ltL l := by
  obtain ⟨h1, h2, _, _, h5⟩ := Hp.tk_spec lt_asym lt_trans' (fun _ => true) n hp hn hk
  have h6 : (Hp.tk ltL z25 (fun _ => true) n hp).2 = [] := by simpa using h5
  rw [h6, List.append_nil] at h1
  exact one_order (fun x hx => hg x ((h1.trans hpm).mem_iff.mp hx)) h2 (Hp.srt_sorted lt_asym lt_trans' l) ((h1.trans hpm).trans (Hp.srt_perm l).symm)
/-- What is taken as long as letters are such, where what is no later than such a one is such, too. -/
theorem taken_such (l : List S25) (hg : ∀ x ∈ l, good x) (p : S25 → Bool) (hmono : ∀ a b, ltL b a = false → p b = true → p a = true) {hp : List S25} (hk : Hp.Ok ltL z25 hp hp.length 0) (hpm : hp.Perm l) (n : Nat) (hn : hp.length ≤ n) :
    (Hp.tk ltL z25 p n hp).1 = (Hp.srt ltL l).filter p ∧ Hp.srt ltL (Hp.tk ltL z25 p n hp).2 = (Hp.srt ltL l).filter (fun x => !p x) ∧ Hp.Ok ltL z25 (Hp.tk ltL z25 p n hp).2 (Hp.tk ltL z25 p n hp).2.length 0 := by
  obtain ⟨h1, h2, h3, h4, h5⟩ := Hp.tk_spec lt_asym lt_trans' p n hp hn hk
  generalize (Hp.tk ltL z25 p n hp).1 = o at *
  generalize (Hp.tk ltL z25 p n hp).2 = r at *
  have hr : ∀ b ∈ r, p b = false := by
    intro b hb
    rcases h5 with h5 | h5
    · rw [h5] at hb; cases hb
    · by_cases e : p b = true
      · obtain ⟨q, hq, rfl⟩ := List.getElem_of_mem hb
        have h6 := Hp.ok_first lt_asym lt_trans' h4 q hq
        rw [Hp.getD_lt _ _ _ hq] at h6
        exact absurd (hmono _ _ h6 e) (by rw [h5]; simp)
      · simpa using e
  have hs := Hp.srt_sorted lt_asym lt_trans' r
  have hsp := Hp.srt_perm (lt := ltL) r
  have hall : o ++ Hp.srt ltL r = Hp.srt ltL l := by
    refine one_order (fun x hx => hg x ?_) ?_ (Hp.srt_sorted lt_asym lt_trans' l) ?_
    · exact (((List.Perm.append_left o hsp).trans h1).trans hpm).mem_iff.mp hx
    · refine List.pairwise_append.mpr ⟨h2, hs, fun a ha b hb => (h3 a ha).2 b (hsp.mem_iff.mp hb)⟩
    · exact (((List.Perm.append_left o hsp).trans h1).trans hpm).trans (Hp.srt_perm l).symm
  have hr' : ∀ b ∈ Hp.srt ltL r, p b = false := fun b hb => hr b (hsp.mem_iff.mp hb)
  rw [← hall]
  refine ⟨?_, ?_, h4⟩
  · rw [List.filter_append, List.filter_eq_self.mpr (fun a ha => (h3 a ha).1), List.filter_eq_nil_iff.mpr (fun a ha => by rw [hr' a ha]; simp), List.append_nil]
  · rw [List.filter_append, List.filter_eq_nil_iff.mpr (fun a ha => by rw [(h3 a ha).1]; simp), List.filter_eq_self.mpr (fun a ha => by rw [hr' a ha]; rfl), List.nil_append]
end Go.Proofs.Ytghkngdcmlhmeaa.Qp

/- Regions that draw their order: all orders come to one state. -/
import Derived.Test.YtanpdkllnmeenaaAmDraw
namespace Go.Proofs.Ytanpdkllnmeenaa.Am
open Go Go.RowKit
set_option linter.unusedVariables false
set_option linter.unusedSectionVars false
set_option linter.unusedSimpArgs false
section
variable {P : Program} {C : Ctx} {F F' F1 F'' : Nat → Prop} {w w' : World} {β β' β0 : Bd} {H H' H1 G H0 : Heap}
variable {L : Nat → Prop} {X : List Value} {w0 : World} {F0 : Nat → Prop} {n : Nat} {sl : List Slot} {env : List AV} {a : Act} {o : Oper} {v : AV} {base : Nat → Prop} {D : Nat → Prop} {st st' : St}
theorem set_same {env : List AV} {d : Nat} {x : AV} (h : envAt env d = x) (hx : x ≠ .undef) : env.set d x = env := by
  unfold envAt at h
  rw [List.getD_eq_getElem?_getD] at h
  cases hd : env[d]? with
  | none => rw [hd] at h; simp at h; exact absurd h.symm hx
  | some y =>
    rw [hd] at h
    simp at h
    subst h
    obtain ⟨h1, h2⟩ := List.getElem?_eq_some_iff.1 hd
    rw [← h2]
    exact List.set_getElem_self h1
/-- An operation behind its guard. -/
def QG (P : Program) (C : Ctx) (ops : Array Oper) (o : Oper) (env : List AV) (H : Heap) (v : AV) (sl : List Slot) : Prop :=
  (o.guard = none ∧ QS P C o env H v sl) ∨ (∃ j want d b, o.guard = some (j, want) ∧ (ops[j]?).bind (·.dst) = some d ∧ envAt env d = .one (.bool b) ∧ ((b = want ∧ QS P C o env H v sl) ∨ (b ≠ want ∧ v = .tup [] ∧ sl = []))) ∨ (∃ j want d, o.guard = some (j, want) ∧ (ops[j]?).bind (·.dst) = some d ∧ envAt env d = .tup [] ∧ v = .tup [] ∧ sl = [])
/-- One that may come late. -/
def QL (C : Ctx) (o : Oper) (env : List AV) (v : AV) (sl : List Slot) : Prop := o.guard = none ∧ opQ C env [] 0 o = some (true, v, []) ∧ sl = []
structure QT (P : Program) (C : Ctx) (ops : Array Oper) (l : List Oper) (env : List AV) (H : Heap) (q : Nat) (lt : List Bool) (V : Nat → AV) (S : Nat → List Slot) (E : Nat → List AV) (HH : Nat → Heap) : Prop where
  e0 : E 0 = env
  h0 : HH 0 = H
  step : ∀ i o, i < q → l[i]? = some o → E (i + 1) = put (E i) o.dst (V i) ∧ HH (i + 1) = HH i ++ S i ∧ ((lt.getD i false = false ∧ QG P C ops o (E i) (HH i) (V i) (S i)) ∨ (lt.getD i false = true ∧ QL C o (E i) (V i) (S i)))
theorem doK_quiet {R : Type} {call : CallK R} {K : AV → Heap → Option R} {out : R} (hc : CallS P call) (h : doK C call true o env H K = some out) : ∃ v sl, QS P C o env H v sl ∧ K v (H ++ sl) = some out := by
  have gen : (match opQ C env H H.length o with
      | some (b, v, sl) => match b with | true => K v (H ++ sl) | false => none
      | none => if true then none else match opE C env H o with
        | some (b, v, H') => match b with | true => K v H' | false => none
        | none => none) = some out → ∃ v sl, QS P C o env H v sl ∧ K v (H ++ sl) = some out := fun h => by
    split at h
    · rename_i b v sl hq
      cases b with
      | false => simp at h
      | true => exact ⟨v, sl, .inl hq, h⟩
    · simp at h
  unfold doK at h
  split at h
  · rename_i c x y ho
    split at h
    · rename_i t h1
      cases t with
      | true =>
        simp only [] at h
        split at h
        · rename_i v hv; exact ⟨v, [], .inr (.inl ⟨c, x, y, true, ho, h1, by simpa using hv, rfl⟩), by simpa using h⟩
        · simp at h
      | false =>
        simp only [] at h
        split at h
        · rename_i v hv; exact ⟨v, [], .inr (.inl ⟨c, x, y, false, ho, h1, by simpa using hv, rfl⟩), by simpa using h⟩
        · simp at h
    · simp at h
  · rename_i x s ho
    split at h
    · rename_i e1 e2; cases e2
    · simp at h
  · rename_i op t x y r ho
    split at h
    · rename_i e1 e2 e3; simp at e2
    · exact gen h
  · rename_i c ho
    split at h
    · rename_i f hcal
      split at h
      · simp at h
      · rename_i g pa pb h1
        split at h
        · simp at h
        · split at h
          · simp at h
          · rename_i vs hs h2
            obtain ⟨r, h3, hok⟩ := hc _ _ _ _ h
            split at h3
            · simp at h3
            · rename_i H1 h4
              have key : H1 = H ∧ (aliasA r = true → hs = []) := by
                revert h4
                cases aliasA r with
                | false => simp; exact fun h => h.symm
                | true =>
                  simp only []
                  intro h4
                  split at h4
                  · simp at h4
                  · rename_i he
                    have hs0 : hs = [] := by simpa using he
                    subst hs0
                    simp [freeze] at h4
                    exact ⟨h4.symm, fun _ => rfl⟩
              obtain ⟨rfl, hal⟩ := key
              exact ⟨_, _, .inr (.inr ⟨c, f, g, pa, pb, vs, hs, r, ho, hcal, h1, h2, hok, hal, rfl, rfl⟩), h3⟩
        · simp at h
    · exact gen h
  · exact gen h
theorem trace {R : Type} {call : CallK R} {ops : Array Oper} (hc : CallS P call) (rts : List CV) : ∀ (l : List Oper) (q : Nat) (lt : List Bool) (env : List AV) (H : Heap) (K : St → Option R) (out : R), opsK C call ops q lt l ⟨env, H, rts⟩ K = some out → q ≤ l.length →
    ∃ V S E HH, QT P C ops l env H q lt V S E HH ∧ opsK C call ops 0 (lt.drop q) (l.drop q) ⟨E q, HH q, rts⟩ K = some out
  | l, 0, lt, env, H, K, out, h, _ => ⟨fun _ => .undef, fun _ => [], fun _ => env, fun _ => H, ⟨rfl, rfl, fun i o hi => by omega⟩, by simpa using h⟩
  | [], q + 1, lt, env, H, K, out, h, hq => by simp at hq
  | o :: rest, q + 1, lt, env, H, K, out, h, hq => by
    have fin : ∀ {v : AV} {sl : List Slot}, ((lt.headD false = false ∧ QG P C ops o env H v sl) ∨ (lt.headD false = true ∧ QL C o env v sl)) → opsK C call ops q lt.tail rest ⟨put env o.dst v, H ++ sl, rts⟩ K = some out → ∃ V S E HH, QT P C ops (o :: rest) env H (q + 1) lt V S E HH ∧ opsK C call ops 0 (lt.drop (q + 1)) ((o :: rest).drop (q + 1)) ⟨E (q + 1), HH (q + 1), rts⟩ K = some out := fun {v sl} hg hk => by
      obtain ⟨V, S, E, HH, t, k⟩ := trace hc rts rest q _ _ _ K out hk (by simpa using hq)
      refine ⟨fun i => match i with | 0 => v | i + 1 => V i, fun i => match i with | 0 => sl | i + 1 => S i, fun i => match i with | 0 => env | i + 1 => E i, fun i => match i with | 0 => H | i + 1 => HH i, ⟨rfl, rfl, fun i o' hi ho => ?_⟩, ?_⟩
      · cases i with
        | zero =>
          simp at ho
          subst ho
          refine ⟨t.e0, t.h0, ?_⟩
          have : lt.getD 0 false = lt.headD false := by cases lt <;> rfl
          rw [this]
          exact hg
        | succ i =>
          have := t.step i o' (by omega) (by simpa using ho)
          have e : lt.getD (i + 1) false = lt.tail.getD i false := by cases lt <;> simp
          rw [e]
          exact this
      · have e : lt.drop (q + 1) = lt.tail.drop q := by cases lt <;> simp
        rw [e]
        simpa using k
    simp only [opsK, Nat.zero_lt_succ, decide_true, Nat.add_one_sub_one] at h
    cases hlt : lt.headD false with
    | true =>
      simp only [hlt] at h
      split at h
      case h_2 => simp at h
      rename_i hg
      split at h
      case h_2 => simp at h
      rename_i b v hq'
      cases b with
      | false => simp at h
      | true => exact fin (sl := []) (.inr ⟨hlt, hg, hq', rfl⟩) (by simpa using h)
    | false =>
    simp only [hlt] at h
    have fin := fun {v : AV} {sl : List Slot} (hg : QG P C ops o env H v sl) => fin (.inl ⟨hlt, hg⟩)
    split at h
    · rename_i hg
      obtain ⟨v, sl, h1, h2⟩ := doK_quiet hc h
      exact fin (.inl ⟨hg, h1⟩) h2
    · rename_i j want hg
      split at h
      · simp at h
      · rename_i d hdst
        split at h
        case h_3 => simp at h
        case h_2 =>
          rename_i hb
          exact fin (sl := []) (.inr (.inr ⟨j, want, d, hg, hdst, hb, rfl, rfl⟩)) (by simpa using h)
        rename_i b hb
        have hset : env.set d (.one (.bool b)) = env := set_same hb (by simp)
        cases b with
        | true =>
          rw [hset] at h
          cases want with
          | true =>
            obtain ⟨v, sl, h1, h2⟩ := doK_quiet hc h
            exact fin (.inr (.inl ⟨j, true, d, true, hg, hdst, hb, .inl ⟨rfl, h1⟩⟩)) h2
          | false => exact fin (sl := []) (.inr (.inl ⟨j, false, d, true, hg, hdst, hb, .inr ⟨by simp, rfl, rfl⟩⟩)) (by simpa using h)
        | false =>
          rw [hset] at h
          cases want with
          | true => exact fin (sl := []) (.inr (.inl ⟨j, true, d, false, hg, hdst, hb, .inr ⟨by simp, rfl, rfl⟩⟩)) (by simpa using h)
          | false =>
            obtain ⟨v, sl, h1, h2⟩ := doK_quiet hc h
            exact fin (.inr (.inl ⟨j, false, d, false, hg, hdst, hb, .inl ⟨rfl, h1⟩⟩)) h2
/-! ### What comes ahead -/
theorem mask_bit (acc : List Nat) (j : Nat) : ∀ es : List Nat, (mask acc es).testBit j = true ↔ ∃ e ∈ es, j = e ∨ (acc.getD e 0).testBit j = true
  | [] => by simp [mask]
  | e :: r => by
    rw [mask, Nat.testBit_or, Nat.testBit_or, Bool.or_eq_true, Bool.or_eq_true, mask_bit acc j r, Nat.testBit_two_pow]
    simp only [decide_eq_true_eq, List.mem_cons, exists_eq_or_imp]
    constructor
    · rintro ((h | h) | h)
      · exact .inl (.inl h.symm)
      · exact .inl (.inr h)
      · exact .inr h
    · rintro ((h | h) | h)
      · exact .inl (.inl h.symm)
      · exact .inl (.inr h)
      · exact .inr h
theorem clos_pre : ∀ (l : List Oper) (acc : List Nat), ∃ r, clos l acc = acc ++ r ∧ r.length = l.length
  | [], acc => ⟨[], by simp [clos], rfl⟩
  | o :: l, acc => by
    obtain ⟨r, h, hl⟩ := clos_pre l (acc ++ [mask acc (edges o)])
    exact ⟨mask acc (edges o) :: r, by rw [clos, h]; simp, by simp [hl]⟩
theorem clos_at : ∀ (l : List Oper) (acc : List Nat) (i : Nat) (o : Oper), l[i]? = some o → (clos l acc)[acc.length + i]? = some (mask ((clos l acc).take (acc.length + i)) (edges o))
  | [], acc, i, o, h => by simp at h
  | o' :: l, acc, 0, o, h => by
    simp at h
    subst h
    obtain ⟨r, h, _⟩ := clos_pre l (acc ++ [mask acc (edges o')])
    rw [clos, h]
    simp
  | o' :: l, acc, i + 1, o, h => by
    have := clos_at l (acc ++ [mask acc (edges o')]) i o (by simpa using h)
    rw [clos]
    simp only [List.length_append, List.length_cons, List.length_nil, Nat.zero_add] at this
    rwa [show acc.length + (i + 1) = acc.length + 1 + i by omega]
theorem clos_getD {l : List Oper} {i : Nat} {o : Oper} (h : l[i]? = some o) : (clos l []).getD i 0 = mask ((clos l []).take i) (edges o) := by
  have := clos_at l [] i o h
  simp at this
  rw [List.getD_eq_getElem?_getD, this]; rfl
theorem take_getD {l : List Nat} {i e : Nat} (h : e < i) : (l.take i).getD e 0 = l.getD e 0 := by
  rw [List.getD_eq_getElem?_getD, List.getD_eq_getElem?_getD, List.getElem?_take_of_lt h]
section closed
variable {l : List Oper} (hlt : ∀ i o, l[i]? = some o → ∀ j ∈ edges o, j < i)
include hlt
theorem bit_lt : ∀ i o, l[i]? = some o → ∀ j, ((clos l []).getD i 0).testBit j = true → j < i := by
  intro i
  induction i using Nat.strongRecOn with
  | _ i ih =>
    intro o ho j hj
    rw [clos_getD ho, mask_bit] at hj
    obtain ⟨e, he, hj⟩ := hj
    have hei := hlt i o ho e he
    rcases hj with rfl | hj
    · exact hei
    · rw [take_getD hei] at hj
      cases ho' : l[e]? with
      | none =>
        have h1 := (List.getElem?_eq_some_iff.1 ho).1
        have h2 := List.getElem?_eq_none_iff.1 ho'
        omega
      | some o' => exact Nat.lt_trans (ih e hei o' ho' j hj) hei
theorem bit_mem {L : Nat → Prop} (hdc : ∀ i o, l[i]? = some o → L i → ∀ j ∈ edges o, L j) : ∀ i o, l[i]? = some o → (∀ j ∈ edges o, L j) → ∀ j, ((clos l []).getD i 0).testBit j = true → L j := by
  intro i
  induction i using Nat.strongRecOn with
  | _ i ih =>
    intro o ho hL j hj
    rw [clos_getD ho, mask_bit] at hj
    obtain ⟨e, he, hj⟩ := hj
    have hei := hlt i o ho e he
    rcases hj with rfl | hj
    · exact hL _ he
    · rw [take_getD hei] at hj
      cases ho' : l[e]? with
      | none =>
        have h1 := (List.getElem?_eq_some_iff.1 ho).1
        have h2 := List.getElem?_eq_none_iff.1 ho'
        omega
      | some o' => exact ih e hei o' ho' (hdc e o' ho' (hL e he)) j hj
end closed
end
end Go.Proofs.Ytanpdkllnmeenaa.Am

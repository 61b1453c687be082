/- What is handed to a function, and what comes back. -/
import Derived.Test.YtanpdkllnmeenaaAmApp
namespace Go.Proofs.Ytanpdkllnmeenaa.Am
open Go Go.RowKit
set_option linter.unusedVariables false
set_option linter.unusedSectionVars false
set_option linter.unusedSimpArgs false
section
variable {P : Program} {C : Ctx} {F F' F'' : Nat → Prop} {w w' : World} {β β' β0 : Bd} {H H' G H0 : Heap}
variable {L : Nat → Prop} {w0 : World} {F0 : Nat → Prop} {n : Nat} {sl : List Slot} {env : List AV} {a : Act} {o : Oper} {v : AV} {base : Nat → Prop} {D : Nat → Prop}
/-- What may be read while it is lent. -/
def FB (F : Nat → Prop) (β : Bd) (H : Heap) (D : Nat → Prop) : Nat → Prop := fun g => F g ∨ ∃ h u s, D h ∧ H[h]? = some s ∧ s.isLive = true ∧ β h = some u ∧ blk u = some g
theorem FB.of : ∀ g, F g → FB F β H D g := fun g h => .inl h
theorem RepC.fb {t : Ty} {x : t.den} {cs : List Value} (h : RepC F w t x cs) : RepC (FB F β H D) w t x cs := h.mono (fun g h => .inl h) fun _ _ => rfl
theorem lend_row (gd : Good L w0 w F0 F β H) {h : Nat} {l : Bool} {e : TypeId} {t : Ty} {xs : List t.den} {u : Value} (hH : H[h]? = some (.row l e t xs)) (hb : β h = some u) (hD : D h) : RepC (FB F β H D) w (.sl t) xs [u] := by
  have ok := gd.slot hb hH
  cases l with
  | false => exact RepC.fb (t := .sl t) ok
  | true =>
    have hfb : ∀ g, blk u = some g → FB F β H D g := fun g hg => .inr ⟨h, u, _, hD, hH, rfl, hb, hg⟩
    obtain ⟨⟨cells, ho, hr⟩, _⟩ := ok
    exact owns_rep ho (hr.mono fun _ _ => RepC.fb) hfb
theorem pure1_ok (gd : Good L w0 w F0 F β H) {c c' : CV} {u : Value} (r : RepV F w β H c u) (h : pure1 H c = some c') (hD : ∀ k ∈ hsC c, D k) : RepV (FB F β H D) w β0 H0 c' u := by
  cases c with
  | undef => simp [pure1] at h
  | nils => simp [pure1] at h; subst h; exact r
  | int k n => simp [pure1] at h; subst h; exact r
  | bool b => simp [pure1] at h; subst h; exact r
  | str s => simp [pure1] at h; subst h; exact r
  | vsl t xs => simp [pure1] at h; subst h; exact RepC.fb (t := .sl t) r
  | own => simp [pure1] at h
  | ptr => simp [pure1] at h
  | fn => simp [pure1] at h
  | fptr t x off =>
    simp [pure1] at h; subst h
    obtain ⟨g, o, cells, h1, h2, h3, h4⟩ := r
    exact ⟨g, o, cells, h1, .inl h2, h3.fb, h4⟩
  | ref k =>
    simp only [pure1] at h
    split at h
    · rename_i l e t xs hs
      injection h with h
      subst h
      have hH := slotAt_row hs (by simp)
      simp only [RepV, hH] at r
      exact lend_row gd hH r.1 (hD k (by simp [hsC]))
    · simp at h
  | sub k p m =>
    simp only [pure1] at h
    split at h
    · rename_i l e t xs hs
      injection h with h
      subst h
      have hH := slotAt_row hs (by simp)
      simp only [RepV, hH] at r
      exact sub_rep r fun e => lend_row gd hH e (hD k (by simp [hsC]))
    · simp at h
theorem mapM_pure {f : CV → Option CV} {R S : CV → Value → Prop} (hf : ∀ c c' u, R c u → f c = some c' → S c' u) : ∀ {cs cs' : List CV} {vs : List Value}, All2 R cs vs → cs.mapM f = some cs' → All2 S cs' vs
  | [], cs', _, .nil, h => by simp at h; subst h; exact .nil
  | c :: l, cs', _, .cons r t, h => by
    simp only [List.mapM_cons, Option.bind_eq_bind, Option.bind_eq_some_iff] at h
    obtain ⟨q, h1, q2, h2, h3⟩ := h
    simp at h3
    subst h3
    exact .cons (hf _ _ _ r h1) (mapM_pure hf t h2)
theorem mapM_pure' {α : Type} {f : α → Option α} {R S : α → Value → Prop} : ∀ {cs cs' : List α} {vs : List Value}, (∀ c ∈ cs, ∀ c' u, R c u → f c = some c' → S c' u) → All2 R cs vs → cs.mapM f = some cs' → All2 S cs' vs
  | [], cs', _, _, .nil, h => by simp at h; subst h; exact .nil
  | c :: l, cs', _, hf, .cons r t, h => by
    simp only [List.mapM_cons, Option.bind_eq_bind, Option.bind_eq_some_iff] at h
    obtain ⟨q, h1, q2, h2, h3⟩ := h
    simp at h3
    subst h3
    exact .cons (hf _ (by simp) _ _ r h1) (mapM_pure' (fun c hc => hf c (by simp [hc])) t h2)
/-- Lent, too: what stands in a lent variable. -/
def DeepIn (H : Heap) (D : Nat → Prop) : Prop := ∀ (h : Nat) (t : Ty) (cs : List CV), D h → H[h]? = some (.box t cs) → ∀ c ∈ cs, ∀ k ∈ hsC c, D k
theorem ptr_ok (gd : Good L w0 w F0 F β H) (hdeep : DeepIn H D) {h i off : Nat} {t : Ty} {cs cs' : List CV} {x : t.den} {u : Value} (r : RepPtr β H h i off u) (hD : D h) (hs : slotAt H h = .box t cs) (h1 : cs.mapM (pure1 H) = some cs') (h2 : unflat1 t cs' = some x) : RepF (FB F β H D) w t x off u := by
  have hH := slotAt_row hs (by simp)
  simp only [RepPtr, hH] at r
  obtain ⟨_, g, hb, rfl⟩ := r
  obtain ⟨g', arr, e, hu, hbase, harr, hall, hnF⟩ := gd.slot hb hH
  simp at hu
  subst hu
  have hall' := mapM_pure' (f := pure1 H) (R := RepV F w β H) (S := RepV (FB F β H D) w β H) (fun c hc c' u r hp => pure1_ok gd r hp (hdeep h t cs hD hH c hc)) hall h1
  refine ⟨g, 0, arr.toList, by rw [Nat.zero_add], .inr ⟨h, _, _, hD, hH, rfl, hb, rfl⟩, rep_unflat1 h2 hall', box_range harr⟩
theorem pureP_ok (gd : Good L w0 w F0 F β H) (hdeep : DeepIn H D) {c c' : PV} {u : Value} (r : RepP F w β H c u) (h : pureP H c = some c') (hD : ∀ k ∈ hsP c, D k) : RepP (FB F β H D) w β0 H0 c' u := by
  cases c with
  | val t x => simp [pureP] at h; subst h; exact RepC.fb r
  | agg t x => simp [pureP] at h; subst h; obtain ⟨vs, e, r⟩ := r; exact ⟨vs, e, RepC.fb r⟩
  | fptr t x off =>
    simp [pureP] at h; subst h
    obtain ⟨g, o, cells, h1, h2, h3, h4⟩ := r
    exact ⟨g, o, cells, h1, .inl h2, h3.fb, h4⟩
  | ptr k i off =>
    simp only [pureP] at h
    split at h
    · rename_i t cs hs
      simp only [Option.bind_eq_some_iff] at h
      obtain ⟨cs', h1, x, h2, h3⟩ := h
      split at h3
      · injection h3 with h3
        subst h3
        exact ptr_ok gd hdeep r (hD k (by simp [hsP])) hs h1 h2
      · simp at h3
    · simp at h
theorem pureC_ok (gd : Good L w0 w F0 F β H) (hdeep : DeepIn H D) {c c' : CV} {u : Value} (r : RepV F w β H c u) (h : pureC H c = some c') (hD : ∀ k ∈ hsC c, D k) : RepV (FB F β H D) w β0 H0 c' u := by
  cases c with
  | ptr k i off =>
    simp only [pureC] at h
    split at h
    · rename_i t cs hs
      simp only [Option.bind_eq_some_iff] at h
      obtain ⟨cs', h1, x, h2, h3⟩ := h
      split at h3
      · injection h3 with h3
        subst h3
        exact ptr_ok gd hdeep r (hD k (by simp [hsC])) hs h1 h2
      · simp at h3
    · simp at h
  | fn f a b =>
    simp only [pureC, Option.bind_eq_some_iff] at h
    obtain ⟨a', h1, b', h2, h3⟩ := h
    simp at h3
    subst h3
    obtain ⟨va, vb, hv, ra, rb⟩ := r
    refine ⟨va, vb, hv, ?_, ?_⟩
    · exact mapM_pure' (f := pureP H) (R := RepP F w β H) (fun c hc c' u r hp => pureP_ok gd hdeep r hp fun k hk => hD k (by simp only [hsC, List.mem_append, List.mem_flatMap]; exact .inl ⟨c, hc, hk⟩)) ra h1
    · exact mapM_pure' (f := pureP H) (R := RepP F w β H) (fun c hc c' u r hp => pureP_ok gd hdeep r hp fun k hk => hD k (by simp only [hsC, List.mem_append, List.mem_flatMap]; exact .inr ⟨c, hc, hk⟩)) rb h2
  | _ => exact pure1_ok gd r h hD
theorem pureA_ok (gd : Good L w0 w F0 F β H) (hdeep : DeepIn H D) {c c' : AV} {u : Value} (r : RepA F w β H c u) (h : pureA H c = some c') (hD : ∀ k ∈ hsA c, D k) : RepA (FB F β H D) w β0 H0 c' u := by
  cases c with
  | undef => simp [pureA] at h
  | tup => simp [pureA] at h
  | one c =>
    simp only [pureA, Option.map_eq_some_iff] at h
    obtain ⟨q, h1, rfl⟩ := h
    exact pureC_ok gd hdeep r h1 hD
  | agg cs =>
    simp only [pureA, Option.map_eq_some_iff] at h
    obtain ⟨q, h1, rfl⟩ := h
    obtain ⟨vs, hv, r⟩ := r
    exact ⟨vs, hv, mapM_pure' (f := pure1 H) (R := RepV F w β H) (fun c hc c' u r hp => pure1_ok gd r hp fun k hk => hD k (by simp only [hsA, List.mem_flatMap]; exact ⟨c, hc, hk⟩)) r h1⟩
/-! ### What comes back -/
def RepR (base : Nat → Prop) (F : Nat → Prop) (w : World) (r : AV) (v : Value) : Prop :=
  ∃ us : List Value, us.length = (adoptA r 0).2.length ∧
    (∀ (j j' : Nat) (u u' : Value) (g : Nat), us[j]? = some u → us[j']? = some u' → blk u = some g → blk u' = some g → j = j') ∧
    ∀ (n : Nat) (β : Bd) (H : Heap), (∀ (j : Nat) (s : Slot), (adoptA r 0).2[j]? = some s → H[n + j]? = some s) → (∀ (j : Nat) (u : Value), us[j]? = some u → β (n + j) = some u) →
      RepA F w β H (adoptA r n).1 v ∧ ∀ (j : Nat) (s : Slot) (u : Value), (adoptA r 0).2[j]? = some s → us[j]? = some u → SlotOk base F w β H s u
theorem adopt1_slots (c : CV) (n m : Nat) : (adopt1 c n).2 = (adopt1 c m).2 := by cases c <;> rfl
theorem adoptL_slots : ∀ (cs : List CV) (n m : Nat), (adoptL cs n).2 = (adoptL cs m).2
  | [], _, _ => rfl
  | c :: r, n, m => by simp only [adoptL]; rw [adopt1_slots c n m, adoptL_slots r]
theorem adoptT_slots : ∀ (cs : List (Bool × List CV)) (n m : Nat), (adoptT cs n).2 = (adoptT cs m).2
  | [], _, _ => rfl
  | c :: r, n, m => by simp only [adoptT]; rw [adoptL_slots c.2 n m, adoptT_slots r]
theorem adoptA_slots (r : AV) (n m : Nat) : (adoptA r n).2 = (adoptA r m).2 := by
  cases r with
  | undef => rfl
  | one c => exact adopt1_slots c n m
  | agg cs => exact adoptL_slots cs n m
  | tup vs => exact adoptT_slots vs n m
/-- Each of the slots that are taken over is a live row. -/
def Rows' (sl : List Slot) : Prop := ∀ s ∈ sl, ∃ e t xs, s = Slot.row true e t xs
theorem adopt1_rows (c : CV) (n : Nat) : Rows' (adopt1 c n).2 := by
  cases c <;> intro s hs <;> simp [adopt1] at hs
  exact ⟨_, _, _, hs⟩
theorem adoptL_rows : ∀ (cs : List CV) (n : Nat), Rows' (adoptL cs n).2
  | [], _ => fun s hs => by simp [adoptL] at hs
  | c :: r, n => fun s hs => by
    simp only [adoptL, List.mem_append] at hs
    rcases hs with hs | hs
    · exact adopt1_rows c n s hs
    · exact adoptL_rows r _ s hs
theorem adoptT_rows : ∀ (cs : List (Bool × List CV)) (n : Nat), Rows' (adoptT cs n).2
  | [], _ => fun s hs => by simp [adoptT] at hs
  | c :: r, n => fun s hs => by
    simp only [adoptT, List.mem_append] at hs
    rcases hs with hs | hs
    · exact adoptL_rows c.2 n s hs
    · exact adoptT_rows r _ s hs
theorem adoptA_rows (r : AV) (n : Nat) : Rows' (adoptA r n).2 := by
  cases r with
  | undef => intro s hs; simp [adoptA] at hs
  | one c => exact adopt1_rows c n
  | agg cs => exact adoptL_rows cs n
  | tup vs => exact adoptT_rows vs n
theorem RepC.plain : ∀ {t : Ty}, t.plain = true → ∀ {x : t.den} {cs : List Value}, RepC F w t x cs → RepC F' w' t x cs
  | .int _, _, _, _, h => h
  | .bool, _, _, _, h => h
  | .str, _, _, _, h => h
  | .unit, _, _, _, h => h
  | .pair a b, hp, _, _, ⟨c1, c2, h1, h2, h3⟩ => by
    simp [Ty.plain] at hp
    exact ⟨c1, c2, h1, RepC.plain hp.1 h2, RepC.plain hp.2 h3⟩
  | .sl _, hp, _, _, h => by simp [Ty.plain] at hp
  | .opq, hp, _, _, h => h.elim
/-- The slots that may be taken over where nothing is shared. -/
def Plain (sl : List Slot) : Prop := ∀ s ∈ sl, ∃ e t xs, s = Slot.row true e t xs ∧ t.plain = true
theorem adopt1_plain {c : CV} (h : alias1 c = false) (n : Nat) : Plain (adopt1 c n).2 := by
  cases c <;> intro s hs <;> simp [adopt1] at hs
  exact ⟨_, _, _, hs, by simpa [alias1] using h⟩
theorem adoptL_plain : ∀ {cs : List CV}, cs.any alias1 = false → ∀ n, Plain (adoptL cs n).2
  | [], _, _ => fun s hs => by simp [adoptL] at hs
  | c :: r, h, n => fun s hs => by
    simp only [List.any_cons, Bool.or_eq_false_iff] at h
    simp only [adoptL, List.mem_append] at hs
    rcases hs with hs | hs
    · exact adopt1_plain h.1 n s hs
    · exact adoptL_plain h.2 _ s hs
theorem adoptT_plain : ∀ {cs : List (Bool × List CV)}, (cs.any fun p => p.2.any alias1) = false → ∀ n, Plain (adoptT cs n).2
  | [], _, _ => fun s hs => by simp [adoptT] at hs
  | c :: r, h, n => fun s hs => by
    simp only [List.any_cons, Bool.or_eq_false_iff] at h
    simp only [adoptT, List.mem_append] at hs
    rcases hs with hs | hs
    · exact adoptL_plain h.1 n s hs
    · exact adoptT_plain h.2 _ s hs
theorem adoptA_plain {r : AV} (h : aliasA r = false) (n : Nat) : Plain (adoptA r n).2 := by
  cases r with
  | undef => intro s hs; simp [adoptA] at hs
  | one c => exact adopt1_plain h n
  | agg cs => exact adoptL_plain h n
  | tup vs => exact adoptT_plain h n
theorem RepV.plain {c : CV} (h : alias1 c = false) {n : Nat} {u : Value} (r : RepV F w β H (adopt1 c n).1 u) : RepV F' w' β H (adopt1 c n).1 u := by
  cases c <;> first
    | (simp [alias1] at h; done)
    | exact r
    | exact r.elim
theorem adoptL_rep : ∀ {cs : List CV}, cs.any alias1 = false → ∀ {n : Nat} {vs : List Value}, All2 (RepV F w β H) (adoptL cs n).1 vs → All2 (RepV F' w' β H) (adoptL cs n).1 vs
  | [], _, _, _, r => by cases r; exact .nil
  | c :: l, h, n, vs, r => by
    simp only [List.any_cons, Bool.or_eq_false_iff] at h
    simp only [adoptL] at r ⊢
    cases r with
    | cons r t => exact .cons (RepV.plain h.1 r) (adoptL_rep h.2 t)
theorem adoptA_rep {r : AV} (h : aliasA r = false) {n : Nat} {v : Value} (hr : RepA F w β H (adoptA r n).1 v) : RepA F' w' β H (adoptA r n).1 v := by
  cases r with
  | undef => trivial
  | one c => exact RepV.plain h hr
  | agg cs =>
    obtain ⟨vs, e, r⟩ := hr
    exact ⟨vs, e, adoptL_rep h r⟩
  | tup us =>
    obtain ⟨vs, e, r⟩ := hr
    refine ⟨vs, e, ?_⟩
    have h' : (us.any fun p => p.2.any alias1) = false := h
    clear h e
    revert r
    generalize vs.toList = l
    intro r
    induction us generalizing n l with
    | nil => simp only [adoptT] at r ⊢; cases r; exact .nil
    | cons c us ih =>
      simp only [List.any_cons, Bool.or_eq_false_iff] at h'
      simp only [adoptT] at r ⊢
      cases r with
      | cons r t =>
        refine .cons ?_ (ih h'.2 _ t)
        rcases c with ⟨b, cs⟩
        cases b with
        | true =>
          obtain ⟨ws, e, r⟩ := r
          exact ⟨ws, e, adoptL_rep h'.1 r⟩
        | false =>
          obtain ⟨q, e, r⟩ := r
          refine ⟨q, e, ?_⟩
          have := adoptL_rep (F' := F') (w' := w') h'.1 (n := n) (vs := [_]) (by rw [e]; exact .cons r .nil)
          rw [e] at this
          cases this with
          | cons r _ => exact r
end
end Go.Proofs.Ytanpdkllnmeenaa.Am

/- Rows by new numbers. -/
import Derived.Test.YtanpdkllnmeenaaAmCall2
namespace Go.Proofs.Ytanpdkllnmeenaa.Am
open Go Go.RowKit
set_option linter.unusedVariables false
set_option linter.unusedSectionVars false
set_option linter.unusedSimpArgs false
section
variable {P : Program} {C : Ctx} {F F' F1 F'' : Nat → Prop} {w w' : World} {β β' β0 : Bd} {H H' H1 G H0 : Heap}
variable {L : Nat → Prop} {w0 : World} {F0 : Nat → Prop} {n : Nat} {sl : List Slot} {env : List AV} {a : Act} {o : Oper} {v : AV} {base : Nat → Prop} {D : Nat → Prop} {st st' : St}
/-! ### New numbers -/
theorem newH_at {ord : List Nat} {h i : Nat} (e : newH ord h = some i) : ord[i]? = some h := by
  unfold newH at e
  have := List.findIdx?_eq_some_iff_getElem.1 (by simpa [List.idxOf?] using e)
  obtain ⟨h1, h2, _⟩ := this
  rw [List.getElem?_eq_getElem h1]
  simpa using h2
def rn (β : Bd) (ord : List Nat) : Bd := fun i => (ord[i]?).bind β
theorem ren_slot {ord : List Nat} {h i : Nat} (e : ord[i]? = some h) : (ord.map fun h => renS ord (slotAt H h))[i]? = some (renS ord (slotAt H h)) := by
  rw [List.getElem?_map, e]; rfl
theorem renS_like {ord : List Nat} (s : Slot) : Like s (renS ord s) := by cases s <;> first | trivial | exact ⟨rfl, fun _ => rfl, id⟩
theorem slotAt_some {h : Nat} {s : Slot} (e : H[h]? = some s) : slotAt H h = s := by unfold slotAt; rw [List.getD_eq_getElem?_getD, e]; rfl
theorem renPtr {ord : List Nat} {h i k off : Nat} {u : Value} (e : newH ord h = some k) (r : RepPtr β H h i off u) : RepPtr (rn β ord) (ord.map fun h => renS ord (slotAt H h)) k i off u := by
  have e1 := newH_at e
  unfold RepPtr at r ⊢
  rw [ren_slot e1]
  have hb : rn β ord k = β h := by simp [rn, e1]
  split at r
  · exact r.elim
  · rename_i hs
    rw [slotAt_some hs]
    exact r
  · rename_i hs
    rw [slotAt_some hs]
    simp only [renS]
    rw [hb]; exact r
  · rename_i hs
    rw [slotAt_some hs]
    simp only [renS]
    rw [hb]; exact r
  · exact r.elim
theorem renP_ok {ord : List Nat} {q q' : PV} {u : Value} (h : renP ord q = some q') (r : RepP F w β H q u) : RepP F w (rn β ord) (ord.map fun h => renS ord (slotAt H h)) q' u := by
  cases q with
  | val t x => simp [renP] at h; subst h; exact r
  | agg t x => simp [renP] at h; subst h; exact r
  | fptr t x off => simp [renP] at h; subst h; exact r
  | ptr k i off =>
    simp only [renP, Option.map_eq_some_iff] at h
    obtain ⟨k', e, rfl⟩ := h
    exact renPtr e r
theorem ren1_ok {ord : List Nat} {c : CV} {u : Value} (r : RepV F w β H c u) : RepV F w (rn β ord) (ord.map fun h => renS ord (slotAt H h)) (ren1 ord c) u := by
  have one := r.one
  cases c with
  | ref h =>
    simp only [ren1]
    cases e : newH ord h with
    | none => exact one
    | some k =>
      have e1 := newH_at e
      have hb : rn β ord k = β h := by simp [rn, e1]
      simp only [RepV] at r ⊢
      rw [ren_slot e1]
      split at r
      · exact r.elim
      · rename_i hs; rw [slotAt_some hs]; exact r
      · rename_i hs; rw [slotAt_some hs]; simp only [renS]; rw [hb]; exact r
      · exact r.elim
      · rename_i hs; rw [slotAt_some hs]; simp only [renS]; rw [hb]; exact r
  | sub h p l =>
    simp only [ren1]
    cases e : newH ord h with
    | none => exact one
    | some k =>
      have e1 := newH_at e
      have hb : rn β ord k = β h := by simp [rn, e1]
      simp only [RepV] at r ⊢
      rw [ren_slot e1]
      split at r
      · exact r.elim
      · rename_i hs; rw [slotAt_some hs]; exact r
      · rename_i hs; rw [slotAt_some hs]; simp only [renS]; rw [hb]; exact r
      · exact r.elim
      · exact r.elim
  | ptr h i off =>
    simp only [ren1]
    cases e : newH ord h with
    | none => exact one
    | some k => exact renPtr e r
  | fn f x y =>
    simp only [ren1]
    split
    · rename_i x' y' hx hy
      obtain ⟨va, vb, hv, ra, rb⟩ := r
      refine ⟨va, vb, hv, ?_, ?_⟩
      · exact mapM_pure' (f := renP ord) (R := RepP F w β H) (fun c _ c' u r hp => renP_ok hp r) ra hx
      · exact mapM_pure' (f := renP ord) (R := RepP F w β H) (fun c _ c' u r hp => renP_ok hp r) rb hy
    · exact one
  | _ => exact r
theorem all2_map {α γ δ : Type} {R : α → δ → Prop} {S : γ → δ → Prop} {f : α → γ} (hf : ∀ x y, R x y → S (f x) y) : ∀ {l : List α} {m : List δ}, All2 R l m → All2 S (l.map f) m
  | _, _, .nil => .nil
  | _, _, .cons r t => .cons (hf _ _ r) (all2_map hf t)
theorem renA_ok {ord : List Nat} {c : AV} {u : Value} (r : RepA F w β H c u) : RepA F w (rn β ord) (ord.map fun h => renS ord (slotAt H h)) (renA ord c) u := by
  cases c with
  | undef => trivial
  | one c => exact ren1_ok r
  | agg cs =>
    obtain ⟨vs, hv, r⟩ := r
    exact ⟨vs, hv, all2_map (fun _ _ r => ren1_ok r) r⟩
  | tup vs => trivial
theorem keep_at {live ord : List Nat} : ∀ {env : List AV} {k : Nat} {us : Nat → Value}, (∀ i, RepA F w β H (env.getD i .undef) (us i)) → ∀ i, RepA F w (rn β ord) (ord.map fun h => renS ord (slotAt H h)) ((keepFrom live ord k env).getD i .undef) (us i)
  | [], k, us, h, i => by simp [keepFrom]; trivial
  | v :: r, k, us, h, 0 => by
    simp only [keepFrom, List.getD_cons_zero]
    split
    · exact renA_ok (h 0)
    · trivial
  | v :: r, k, us, h, i + 1 => by
    simp only [keepFrom, List.getD_cons_succ]
    exact keep_at (env := r) (k := k + 1) (us := fun i => us (i + 1)) (fun i => by have := h (i + 1); simpa using this) i
theorem keep_len {live ord : List Nat} : ∀ {env : List AV} {k : Nat}, (keepFrom live ord k env).length = env.length
  | [], _ => rfl
  | v :: r, k => by simp [keepFrom, keep_len]
theorem good_ren (gd : Good L w0 w F0 F β H) {ord : List Nat} (hn : ord.Nodup) : Good L w0 w F0 F (rn β ord) (ord.map fun h => renS ord (slotAt H h)) := by
  have inv : ∀ {i : Nat} {u : Value}, rn β ord i = some u → ∃ h s, ord[i]? = some h ∧ β h = some u ∧ H[h]? = some s ∧ SlotOk (Bs L w0) F w β H s u ∧ (ord.map fun h => renS ord (slotAt H h))[i]? = some (renS ord s) := fun {i u} hu => by
    simp only [rn, Option.bind_eq_some_iff] at hu
    obtain ⟨h, e, hb⟩ := hu
    obtain ⟨s, h1, h2⟩ := gd.dom h u hb
    exact ⟨h, s, e, hb, h1, h2, by rw [ren_slot e, slotAt_some h1]⟩
  refine ⟨gd.below, gd.fsz, gd.f0, gd.f1, fun i u hu => ?_, fun i i' s s' u u' g e1 e2 l1 l2 b1 b2 g1 g2 => ?_⟩
  · obtain ⟨h, s, e, hb, h1, h2, h3⟩ := inv hu
    refine ⟨_, h3, ?_⟩
    cases s with
    | dead => trivial
    | row l e t xs => cases l <;> exact h2
    | box t cs =>
      obtain ⟨g, arr, e, a, b, c, d, f⟩ := h2
      exact ⟨g, arr, e, a, b, c, all2_map (fun _ _ r => ren1_ok r) d, f⟩
    | iter => exact h2
  · obtain ⟨h, t, e, hb, h1, h2, h3⟩ := inv b1
    obtain ⟨h', t', e', hb', h1', h2', h3'⟩ := inv b2
    rw [e1] at h3
    rw [e2] at h3'
    injection h3 with h3
    injection h3' with h3'
    have l1' : t.isLive = true := by rw [h3] at l1; cases t <;> exact l1
    have l2' : t'.isLive = true := by rw [h3'] at l2; cases t' <;> exact l2
    have := gd.sep h h' t t' u u' g h1 h1' l1' l2' hb hb' g1 g2
    subst this
    exact (List.getElem?_inj (List.getElem?_eq_some_iff.1 e).1 hn).1 (e.trans e'.symm)
end
end Go.Proofs.Ytanpdkllnmeenaa.Am

/- What stays good. -/
import Derived.Test.YtanpdkllnmeenaaAmQ5
namespace Go.Proofs.Ytanpdkllnmeenaa.Am
open Go Go.RowKit
set_option linter.unusedVariables false
set_option linter.unusedSectionVars false
set_option linter.unusedSimpArgs false
section
variable {P : Program} {C : Ctx} {F F' : Nat → Prop} {w w' : World} {β β' : Bd} {H H' G : Heap}
variable {L : Nat → Prop} {w0 : World} {F0 : Nat → Prop} {n : Nat} {sl : List Slot} {env : List AV} {a : Act} {o : Oper} {v : AV} {base : Nat → Prop}
theorem owns_keep {e : TypeId} {size k : Nat} {u : Value} {xs : List Value} (h : ownsAt w e size u k xs) (hb : ∀ g, blk u = some g → w'.heap[g]? = w.heap[g]?) : ownsAt w' e size u k xs := by
  refine ⟨h.1, h.2.imp id fun ⟨g, o, cap, cur, h1, h3, r⟩ => ⟨g, o, cap, cur, h1, ?_, r⟩⟩
  rw [hb g (by rw [h1]; rfl)]
  exact h3
theorem ownsT_keep {t : Ty} {e : TypeId} {k : Nat} {u : Value} {xs : List Value} (h : OwnsT t w e u k xs) (hb : ∀ g, blk u = some g → w'.heap[g]? = w.heap[g]?) : OwnsT t w' e u k xs := by
  unfold OwnsT at h ⊢
  cases hm : t.isMp with
  | true =>
    simp only [hm] at h ⊢
    obtain ⟨g, h1, h2⟩ := h
    exact ⟨g, h1, lies_of_block (hb g (by rw [h1]; rfl)) h2⟩
  | false =>
    simp only [hm] at h ⊢
    exact owns_keep h hb
theorem ownsT_lt {t : Ty} {e : TypeId} {k g : Nat} {u : Value} {xs : List Value} (h : OwnsT t w e u k xs) (hg : blk u = some g) : g < w.heap.size := by
  unfold OwnsT at h
  cases hm : t.isMp with
  | true =>
    simp only [hm] at h
    obtain ⟨g', h1, h2⟩ := h
    rw [h1] at hg
    simp [blk] at hg
    subst hg
    simp only [Lies, hm] at h2
    obtain ⟨arr, h3, _⟩ := h2
    exact (Array.getElem?_eq_some_iff.1 h3).1
  | false =>
    simp only [hm] at h
    obtain ⟨_, h1 | ⟨g', o, cap, cur, h1, h3, _⟩⟩ := h
    · rw [h1.1] at hg; simp [blk] at hg
    · rw [h1] at hg
      simp [blk] at hg
      subst hg
      exact (Array.getElem?_eq_some_iff.1 h3).1
theorem owns_rep {t : Ty} {e : TypeId} {u : Value} {xs : List t.den} {cells : List Value} (h : OwnsT t w e u xs.length cells) (hr : RowC (RepC F w t) t.size xs cells) (hF : ∀ g, blk u = some g → F g) : RepC F w (.sl t) xs [u] := by
  unfold OwnsT at h
  cases hm : t.isMp with
  | true =>
    simp only [hm] at h
    obtain ⟨g, h1, h2⟩ := h
    exact ⟨some ⟨g, 0, none⟩, xs.length, by rw [h1]; simp [hdr, hm], Nat.le_refl _, .inr ⟨g, 0, cells, rfl, hF g (by rw [h1]; rfl), hr, h2⟩⟩
  | false =>
    simp only [hm] at h
    obtain ⟨hl, h1 | ⟨g, o, cap, cur, h1, h3, h4, h5, h6, h7⟩⟩ := h
    · refine ⟨none, 0, by rw [h1.1, h1.2, hdr_sl hm], by omega, .inl ⟨List.length_eq_zero_iff.1 h1.2, fun _ => rfl⟩⟩
    · refine ⟨_, cap, by rw [h1, hdr_sl hm], h4, .inr ⟨g, o, cells, rfl, hF g (by rw [h1]; rfl), hr, (lies_sl hm).2 ?_⟩⟩
      rw [← h7]
      intro j x hx
      rw [List.getElem?_take] at hx
      split at hx
      · simp only [World.cell?, h3]
        rw [List.getElem?_drop, Array.getElem?_toList] at hx
        simpa using hx
      · simp at hx
theorem ownsT_kind {t : Ty} {e : TypeId} {k : Nat} {u : Value} {xs : List Value} (h : OwnsT t w e u k xs) : (t.isMp = false ∧ ∃ A c, u = .slice A k c) ∨ ∃ g, t.isMp = true ∧ u = .map (some g) := by
  unfold OwnsT at h
  cases hm : t.isMp with
  | true =>
    simp only [hm] at h
    obtain ⟨g, h1, _⟩ := h
    exact .inr ⟨g, rfl, h1⟩
  | false =>
    simp only [hm] at h
    obtain ⟨hl, h1 | ⟨g, o, cap, cur, h1, _⟩⟩ := h
    · exact .inl ⟨rfl, none, 0, by rw [h1.1, h1.2]⟩
    · exact .inl ⟨rfl, _, _, h1⟩
theorem ownsT_one {t : Ty} {e : TypeId} {k : Nat} {u : Value} {xs : List Value} (h : OwnsT t w e u k xs) : u.oneCell' = true := by
  rcases ownsT_kind h with ⟨_, A, c, h⟩ | ⟨g, _, h⟩ <;> rw [h] <;> rfl
theorem SlotOk.keep {s : Slot} {u : Value} (k : Keeps F F' w w' β β' H H') (hb : s.isLive = true → ∀ g, blk u = some g → w'.heap[g]? = w.heap[g]? ∧ (¬ F g → ¬ F' g)) (h : SlotOk base F w β H s u) : SlotOk base F' w' β' H' s u := by
  cases s with
  | dead => trivial
  | row l e t xs =>
    cases l with
    | true =>
      obtain ⟨⟨cells, h1, h2⟩, h3⟩ := h
      exact ⟨⟨cells, ownsT_keep h1 fun g hg => (hb rfl g hg).1, h2.mono fun _ _ => RepC.mono k.f k.w⟩, fun g hg => ⟨(h3 g hg).1, (hb rfl g hg).2 (h3 g hg).2⟩⟩
    | false => exact RepC.mono (t := .sl t) k.f k.w h
  | box t cs =>
    obtain ⟨g, arr, e, h1, h2, h3, h4, h5⟩ := h
    have := hb rfl g (by rw [h1]; rfl)
    exact ⟨g, arr, e, h1, h2, this.1.trans h3, h4.mono fun _ _ => RepV.mono k, this.2 h5⟩
  | iter => exact IterR.mono k.f k.w h (hb rfl)
theorem SlotOk.lt {s : Slot} {u : Value} (h : SlotOk base F w β H s u) (hl : s.isLive = true) {g : Nat} (hg : blk u = some g) : base g ∧ g < w.heap.size ∧ ¬ F g := by
  cases s with
  | dead => simp [Slot.isLive] at hl
  | row l e t xs =>
    simp [Slot.isLive] at hl
    subst hl
    obtain ⟨⟨cells, ho, _⟩, h4⟩ := h
    exact ⟨(h4 _ hg).1, ownsT_lt ho hg, (h4 _ hg).2⟩
  | box t cs =>
    obtain ⟨g', arr, e, h1, h2, h3, h4, h5⟩ := h
    rw [h1] at hg
    simp [blk] at hg
    subst hg
    exact ⟨h2, (Array.getElem?_eq_some_iff.1 h3).1, h5⟩
  | iter k v es seen =>
    obtain ⟨gi, g', arr, h1, h2, h3, h4, _⟩ := h
    rw [h1] at hg
    simp [blk] at hg
    subst hg
    exact ⟨h2, (Array.getElem?_eq_some_iff.1 h4).1, h3⟩
def ext (β : Bd) (n : Nat) (us : List Value) : Bd := fun h => if h < n then β h else match us[h - n]? with | some u => some u | none => β h
theorem ext_new {us : List Value} {j : Nat} {u : Value} (h : us[j]? = some u) : ext β n us (n + j) = some u := by
  simp [ext, h]
  omega
theorem ext_old {us : List Value} (hf : ∀ j, j < us.length → β (n + j) = none) {h : Nat} {u : Value} (hb : β h = some u) : ext β n us h = some u := by
  unfold ext
  split
  · exact hb
  · rename_i hn
    split
    · rename_i u' hu
      have := hf (h - n) (List.getElem?_eq_some_iff.1 hu).1
      rw [show n + (h - n) = h by omega, hb] at this
      simp at this
    · exact hb
theorem ext_some {us : List Value} {h : Nat} {u : Value} (hb : ext β n us h = some u) : (∃ j, h = n + j ∧ us[j]? = some u) ∨ β h = some u := by
  unfold ext at hb
  split at hb
  · exact .inr hb
  · split at hb
    · rename_i u' hu
      simp at hb
      subst hb
      exact .inl ⟨h - n, by omega, hu⟩
    · exact .inr hb
/-- Behind a quiet operation all is as good as ahead of it. -/
theorem good_quiet (p : Pre L w0 w F0 F β H G n sl) (hf : ∀ j, j < sl.length → β (n + j) = none) (q : QPost P (Bs L w0) F w β G n o a v sl) :
    ∃ v' w' β', (execOp a.eval o).run P w = .ok (.value v') w' ∧ Good L w0 w' F0 F β' G ∧ Keeps F F w w' β β' G G ∧ RepA F w' β' G v v' ∧ Below w.heap.size w w' ∧ (∀ h, β' h ≠ none → β h ≠ none ∨ (n ≤ h ∧ h < n + sl.length)) := by
  obtain ⟨v', w', us, hr, hl, ⟨hb, _⟩, hblk, hall⟩ := q
  have hext : ∀ h u, β h = some u → ext β n us h = some u := fun h u => ext_old (by rwa [hl])
  obtain ⟨hs, hv⟩ := hall (ext β n us) hext fun j u hu => ext_new hu
  have gd := p.good
  have kp : Keeps F F w w' β (ext β n us) G G := keeps_world gd hb hext
  refine ⟨v', w', _, hr, ⟨gd.below.trans hb, fun g hg => Nat.lt_of_lt_of_le (gd.fsz g hg) hb.size, gd.f0, gd.f1, ?_, ?_⟩, kp, hv, hb, ?_⟩
  · intro h u hu
    rcases ext_some hu with ⟨j, rfl, hj⟩ | hu
    · have hj' := (List.getElem?_eq_some_iff.1 hj).1
      rw [hl] at hj'
      have e := List.getElem?_eq_getElem hj'
      exact ⟨_, p.new _ _ e, hs j _ u e hj⟩
    · obtain ⟨s, h1, h2⟩ := gd.dom h u hu
      exact ⟨s, h1, h2.keep kp fun hlive g hg => ⟨hb.block g (h2.lt hlive hg).2.1, id⟩⟩
  · intro h h' s s' u u' g h1 h2 l1 l2 b1 b2 g1 g2
    rcases ext_some b1 with ⟨j, rfl, hj⟩ | b1
    · rcases ext_some b2 with ⟨j', rfl, hj'⟩ | b2
      · rw [(hblk _ _ _ hj g1).1, (hblk _ _ _ hj' g2).1]
      · obtain ⟨s2, e2, ok2⟩ := gd.dom _ _ b2
        rw [h2] at e2
        injection e2 with e2
        subst e2
        have := (ok2.lt l2 g2).2.1
        have := (hblk _ _ _ hj g1).2.1
        omega
    · rcases ext_some b2 with ⟨j', rfl, hj'⟩ | b2
      · obtain ⟨s2, e2, ok2⟩ := gd.dom _ _ b1
        rw [h1] at e2
        injection e2 with e2
        subst e2
        have := (ok2.lt l1 g1).2.1
        have := (hblk _ _ _ hj' g2).2.1
        omega
      · exact gd.sep h h' s s' u u' g h1 h2 l1 l2 b1 b2 g1 g2
  · intro h hh
    cases hb' : ext β n us h with
    | none => exact absurd hb' hh
    | some u =>
      rcases ext_some hb' with ⟨j, rfl, hj⟩ | hb'
      · right
        have := (List.getElem?_eq_some_iff.1 hj).1
        omega
      · left; rw [hb']; simp
/-- More slots behind what is there. -/
theorem good_more (gd : Good L w0 w F0 F β H) (sl : List Slot) : Good L w0 w F0 F β (H ++ sl) ∧ Keeps F F w w β β H (H ++ sl) := by
  have hat : ∀ (h : Nat) (s : Slot), H[h]? = some s → (H ++ sl)[h]? = some s := fun h s hs => by
    rw [List.getElem?_append_left (List.getElem?_eq_some_iff.1 hs).1]; exact hs
  have kp : Keeps F F w w β β H (H ++ sl) := ⟨fun _ h => h, fun _ _ => rfl, fun _ _ h => h, fun h s hs => ⟨s, hat h s hs, by cases s <;> first | trivial | exact ⟨rfl, fun _ => rfl, id⟩⟩⟩
  refine ⟨⟨gd.below, gd.fsz, gd.f0, gd.f1, fun h u hu => ?_, fun h h' s s' u u' g h1 h2 l1 l2 b1 b2 g1 g2 => ?_⟩, kp⟩
  · obtain ⟨s, h1, h2⟩ := gd.dom h u hu
    exact ⟨s, hat h s h1, h2.keep kp fun _ _ _ => ⟨rfl, id⟩⟩
  · obtain ⟨t1, e1, _⟩ := gd.dom _ _ b1
    obtain ⟨t2, e2, _⟩ := gd.dom _ _ b2
    have k1 := hat _ _ e1
    have k2 := hat _ _ e2
    rw [h1] at k1
    rw [h2] at k2
    injection k1 with k1
    injection k2 with k2
    subst k1 k2
    exact gd.sep h h' _ _ u u' g e1 e2 l1 l2 b1 b2 g1 g2
theorem set_at {h : Nat} {s s' : Slot} (hs : H[h]? = some s) : (H.set h s')[h]? = some s' := by
  have := (List.getElem?_eq_some_iff.1 hs).1
  rw [List.getElem?_set_self this]
theorem set_ne {h k : Nat} {s' : Slot} (hk : k ≠ h) : (H.set h s')[k]? = H[k]? := List.getElem?_set_ne (by omega)
theorem like_refl (s : Slot) : Like s s := by cases s <;> first | trivial | exact ⟨rfl, fun _ => rfl, id⟩
theorem keeps_set {h : Nat} {s s' : Slot} (hs : H[h]? = some s) (hl : Like s s') (hf : ∀ g, F g → F' g) (hw : ∀ g, F g → w'.heap[g]? = w.heap[g]?) (hb : ∀ h u, β h = some u → β' h = some u) : Keeps F F' w w' β β' H (H.set h s') := by
  refine ⟨hf, hw, hb, fun k t ht => ?_⟩
  by_cases hk : k = h
  · subst hk
    rw [hs] at ht
    injection ht with ht
    subst ht
    exact ⟨s', set_at hs, hl⟩
  · exact ⟨t, by rw [set_ne hk]; exact ht, like_refl t⟩
/-- One's own block is written. -/
theorem good_write (gd : Good L w0 w F0 F β H) {h g : Nat} {s s' : Slot} {u : Value} (hs : H[h]? = some s) (hlive : s.isLive = true) (hu : β h = some u) (hg : blk u = some g) (hl : Like s s')
    (hb : Below 0 w w') (hsz : w'.heap.size = w.heap.size) (hne : ∀ k, k ≠ g → w'.heap[k]? = w.heap[k]?) (ok : Keeps F F w w' β β H (H.set h s') → SlotOk (Bs L w0) F w' β (H.set h s') s' u) :
    Good L w0 w' F0 F β (H.set h s') ∧ Keeps F F w w' β β H (H.set h s') := by
  have hlt := (gd.slot hu hs).lt hlive hg
  have kp : Keeps F F w w' β β H (H.set h s') := keeps_set hs hl (fun _ h => h) (fun k hk => hne k (fun e => hlt.2.2 (e ▸ hk))) (fun _ _ h => h)
  have hlive' : s'.isLive = true → s.isLive = true := fun _ => hlive
  refine ⟨⟨gd.below.write hb.os hb.tape hb.output (by omega) (fun k _ hn => hne k fun e => hn (e ▸ hlt.1)), fun k hk => by rw [hsz]; exact gd.fsz k hk, gd.f0, gd.f1, fun k u' hu' => ?_, fun k k' t t' v v' b h1 h2 l1 l2 b1 b2 g1 g2 => ?_⟩, kp⟩
  · by_cases hk : k = h
    · subst hk
      rw [hu] at hu'
      injection hu' with hu'
      subst hu'
      exact ⟨s', set_at hs, ok kp⟩
    · obtain ⟨t, e1, e2⟩ := gd.dom k u' hu'
      refine ⟨t, by rw [set_ne hk]; exact e1, e2.keep kp fun hlt' b hb' => ⟨hne b fun e => hk ?_, id⟩⟩
      subst e
      exact gd.sep k h _ _ u' u b e1 hs hlt' hlive hu' hu hb' hg
  · have old : ∀ {k : Nat} {t : Slot}, (H.set h s')[k]? = some t → t.isLive = true → ∃ t0, H[k]? = some t0 ∧ t0.isLive = true := fun {k t} h1 l1 => by
      by_cases hk : k = h
      · subst hk; exact ⟨s, hs, hlive⟩
      · rw [set_ne hk] at h1; exact ⟨t, h1, l1⟩
    obtain ⟨t0, a1, a2⟩ := old h1 l1
    obtain ⟨t1, c1, c2⟩ := old h2 l2
    exact gd.sep k k' t0 t1 v v' b a1 c1 a2 c2 b1 b2 g1 g2
/-- A row stays as it is from now on. -/
theorem good_freeze (gd : Good L w0 w F0 F β H) {h : Nat} {l : Bool} {e : TypeId} {t : Ty} {xs : List t.den} (hs : H[h]? = some (.row l e t xs)) :
    ∃ F', Good L w0 w F0 F' β (H.set h (.row false e t xs)) ∧ Keeps F F' w w β β H (H.set h (.row false e t xs)) ∧ (∀ g, F' g → F g ∨ ∃ u, β h = some u ∧ blk u = some g ∧ Bs L w0 g) ∧ (∀ u g, l = true → β h = some u → blk u = some g → F' g) := by
  cases hu : β h with
  | none =>
    have kp : Keeps F F w w β β H (H.set h (.row false e t xs)) := keeps_set hs ⟨rfl, fun _ => rfl, fun h => by simp at h⟩ (fun _ h => h) (fun _ _ => rfl) (fun _ _ h => h)
    refine ⟨F, ⟨gd.below, gd.fsz, gd.f0, gd.f1, fun k u' hu' => ?_, fun k k' t t' v v' b h1 h2 l1 l2 b1 b2 g1 g2 => ?_⟩, kp, fun g hg => .inl hg, fun u g _ h => by simp at h⟩
    · have hk : k ≠ h := fun e => by subst e; rw [hu] at hu'; simp at hu'
      obtain ⟨t, e1, e2⟩ := gd.dom k u' hu'
      exact ⟨t, by rw [set_ne hk]; exact e1, e2.keep kp fun _ _ _ => ⟨rfl, id⟩⟩
    · have hk : k ≠ h := fun e => by subst e; rw [hu] at b1; simp at b1
      have hk' : k' ≠ h := fun e => by subst e; rw [hu] at b2; simp at b2
      rw [set_ne hk] at h1
      rw [set_ne hk'] at h2
      exact gd.sep k k' t t' v v' b h1 h2 l1 l2 b1 b2 g1 g2
  | some u =>
    have ok := gd.slot hu hs
    have kp : Keeps F (fun g => F g ∨ (l = true ∧ blk u = some g)) w w β β H (H.set h (.row false e t xs)) := keeps_set hs ⟨rfl, fun _ => rfl, fun h => by simp at h⟩ (fun _ h => .inl h) (fun _ _ => rfl) (fun _ _ h => h)
    have hlt : l = true → ∀ g, blk u = some g → Bs L w0 g ∧ g < w.heap.size ∧ ¬ F g := fun hl g hg => ok.lt (by simpa [Slot.isLive] using hl) hg
    refine ⟨_, ⟨gd.below, ?_, ?_, fun g hg => .inl (gd.f1 g hg), fun k u' hu' => ?_, fun k k' t1 t' v v' b h1 h2 l1 l2 b1 b2 g1 g2 => ?_⟩, kp, ?_, fun u' g hl hu' hg => .inr ⟨hl, by injection hu' with hu'; rw [hu']; exact hg⟩⟩
    · rintro g (hg | ⟨hl, hg⟩)
      · exact gd.fsz g hg
      · exact (hlt hl g hg).2.1
    · rintro g (hg | ⟨hl, hg⟩) hlt'
      · exact gd.f0 g hg hlt'
      · exact absurd (hlt hl g hg).1 hlt'
    · by_cases hk : k = h
      · subst hk
        rw [hu] at hu'
        injection hu' with hu'
        subst hu'
        refine ⟨_, set_at hs, ?_⟩
        cases l with
        | false => exact RepC.mono (t := .sl t) kp.f kp.w ok
        | true =>
          obtain ⟨⟨cells, ho, hr⟩, hF⟩ := ok
          exact owns_rep ho (hr.mono fun _ _ => RepC.mono kp.f kp.w) fun g hg => .inr ⟨rfl, hg⟩
      · obtain ⟨t1, e1, e2⟩ := gd.dom k u' hu'
        refine ⟨t1, by rw [set_ne hk]; exact e1, e2.keep kp fun hlt' b hb' => ⟨rfl, fun hn => ?_⟩⟩
        rintro (hf | ⟨hl, hg⟩)
        · exact hn hf
        · exact hk (gd.sep k h _ _ u' u b e1 hs hlt' (by simpa [Slot.isLive] using hl) hu' hu hb' hg)
    · have old : ∀ {k : Nat} {t1 : Slot}, (H.set h (.row false e t xs))[k]? = some t1 → t1.isLive = true → H[k]? = some t1 := fun {k t1} h1 l1 => by
        by_cases hk : k = h
        · subst hk
          rw [set_at hs] at h1
          injection h1 with h1
          subst h1
          simp [Slot.isLive] at l1
        · rw [set_ne hk] at h1; exact h1
      exact gd.sep k k' t1 t' v v' b (old h1 l1) (old h2 l2) l1 l2 b1 b2 g1 g2
    · rintro g (hg | ⟨hl, hg⟩)
      · exact .inl hg
      · exact .inr ⟨u, rfl, hg, (hlt hl g hg).1⟩
end
end Go.Proofs.Ytanpdkllnmeenaa.Am

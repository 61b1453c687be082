/- Calls that are lent variables and rows, to write them. -/
import Derived.Test.YtanpdkllnmeenaaAmRen
namespace Go.Proofs.Ytanpdkllnmeenaa.Am
open Go Go.RowKit
set_option linter.unusedVariables false
set_option linter.unusedSectionVars false
set_option linter.unusedSimpArgs false
section
variable {P : Program} {C : Ctx} {F F' F1 F'' : Nat → Prop} {w w' : World} {β β' β0 : Bd} {H H' H1 G H0 : Heap}
variable {L : Nat → Prop} {w0 : World} {F0 : Nat → Prop} {n : Nat} {sl : List Slot} {env : List AV} {a : Act} {o : Oper} {v : AV} {base : Nat → Prop} {D : Nat → Prop} {st st' : St}
/-- What stands in a lent variable, or row. -/
def ContOk (B F : Nat → Prop) (w : World) (vals : List Value) (x ct : Value) : Prop :=
  (((∃ A n c, x = .slice A n c) ∨ ∃ g, x = .map (some g)) ∧ ct = x) ∨
  ∃ g arr e, x = .pointer (some ⟨g, 0, none⟩) ∧ ct = .agg arr ∧ w.heap[g]? = some (.cells arr e (0, 0)) ∧ B g ∧ ¬ F g ∧ ∀ (j : Nat) (u : Value), vals[j]? = some u → blk u ≠ some g
def RepRV (base : Nat → Prop) (F : Nat → Prop) (w : World) (us : List Value) (r : AV) (v : Value) : Prop :=
  us.length = (adoptA r 0).2.length ∧
    (∀ (j j' : Nat) (u u' : Value) (g : Nat), us[j]? = some u → us[j']? = some u' → blk u = some g → blk u' = some g → j = j') ∧
    ∀ (n : Nat) (β : Bd) (H : Heap), (∀ (j : Nat) (s : Slot), (adoptA r 0).2[j]? = some s → H[n + j]? = some s) → (∀ (j : Nat) (u : Value), us[j]? = some u → β (n + j) = some u) →
      RepA F w β H (adoptA r n).1 v ∧ ∀ (j : Nat) (s : Slot) (u : Value), (adoptA r 0).2[j]? = some s → us[j]? = some u → SlotOk base F w β H s u
theorem RepRV.to {us : List Value} {r : AV} {v' : Value} (h : RepRV base F w us r v') (hF : ∀ g, F g → F' g) (hn : ∀ g, base g → ¬ F g → ¬ F' g) : RepRV base F' w us r v' := by
  obtain ⟨hlen, hdis, hall⟩ := h
  refine ⟨hlen, hdis, fun n β H hH hβ => ?_⟩
  obtain ⟨h1, h2⟩ := hall n β H hH hβ
  have kp : Keeps F F' w w β β H H := ⟨hF, fun _ _ => rfl, fun _ _ h => h, fun h s hs => ⟨s, hs, like_refl s⟩⟩
  refine ⟨h1.mono kp, fun j s u hs hu => ?_⟩
  have ok := h2 j s u hs hu
  exact ok.keep kp fun hl g hg => ⟨rfl, hn g (ok.lt hl hg).1⟩
theorem RepRV.flat {us : List Value} {r : AV} {v' : Value} (ha : aliasA r = false) (h : RepRV base F w us r v') (hn : ∀ g, base g → ¬ F g → ¬ F' g) : RepRV base F' w us r v' := by
  obtain ⟨hlen, hdis, hall⟩ := h
  refine ⟨hlen, hdis, fun n β H hH hβ => ?_⟩
  obtain ⟨h1, h2⟩ := hall n β H hH hβ
  refine ⟨adoptA_rep ha h1, fun j s u hs hu => ?_⟩
  have ok := h2 j s u hs hu
  obtain ⟨e, t, xs, rfl, hp⟩ := adoptA_plain ha 0 s (List.mem_of_getElem? hs)
  have hlt := fun g hg => ok.lt rfl (g := g) hg
  obtain ⟨⟨cells, a, b⟩, c⟩ := ok
  exact ⟨⟨cells, a, b.mono fun _ _ => RepC.plain hp⟩, fun g hg => ⟨(c g hg).1, hn g (hlt g hg).1 (c g hg).2⟩⟩
def RepL (B F : Nat → Prop) (w : World) (X : List Value) (us : List (Bool × List CV)) (ws : List Value) : Prop :=
  ∃ vals cts : List Value, RepRV B F w vals (.tup us) (.tuple (cts ++ ws).toArray) ∧
    cts.length = X.length ∧ ∀ (j : Nat) (x ct : Value), X[j]? = some x → cts[j]? = some ct → ContOk B F w vals x ct
/-- Results, as one value. -/
def oneOf (ws : List Value) : Value := if h : ws.toArray.size = 1 then ws.toArray[0] else .tuple ws.toArray
structure CResL (L : Nat → Prop) (w : World) (F : Nat → Prop) (X : List Value) (r : AV) (v : Value) (w' : World) (F' : Nat → Prop) : Prop where
  below : BelowL L w w'
  fsz : ∀ g, F' g → g < w'.heap.size
  f0 : ∀ g, F' g → ¬ Bs L w g → F g
  f1 : ∀ g, F g → F' g
  rep : match X with
    | [] => RepR (Bs L w) F' w' r v
    | _ :: _ => ∃ us ws, r = .tup us ∧ v = oneOf ws ∧ RepL (Bs L w) F' w' X us ws
/-- What is known of a call. -/
def CallOK (P : Program) (g : FuncId) (p : Pack) (r : AV) : Prop :=
  ∀ (L : Nat → Prop) (w : World) (F : Nat → Prop) (β : Bd) (args : Array Value) (X : List Value), Good L w w F F β p.heap → All2 (RepA F w β p.heap) p.vs args.toList → All2 (RepV F w β p.heap) p.roots X →
    ((callFunc g args).run P w = .ok (.enter g args) w ∧ Calls P g args w fun e w' => ∃ v F', e = .returned v ∧ CResL L w F X r v w' F') ∨
    ∃ v w' F', (callFunc g args).run P w = .ok (.value v) w' ∧ CResL L w F X r v w' F'
theorem RepR.based {b B : Nat → Prop} {r : AV} {v : Value} (hB : ∀ g, b g → B g) (h : RepR b F w r v) : RepR B F w r v := by
  obtain ⟨us, hlen, hdis, hall⟩ := h
  refine ⟨us, hlen, hdis, fun n β H hH hβ => ?_⟩
  obtain ⟨h1, h2⟩ := hall n β H hH hβ
  exact ⟨h1, fun j s u hs hu => slot_base hB (h2 j s u hs hu)⟩
theorem good_start (hF : ∀ b, F b → b < w.heap.size) : Good L w w F F (fun _ => none) [] := ⟨BelowL.refl _ _, hF, fun g h _ => h, fun g h => h, fun h u hu => by simp at hu, fun h h' s s' u u' g e1 => by simp at e1⟩
theorem CallOK.to0 {g : FuncId} {vs : List AV} {r : AV} (h : CallOK P g ⟨vs, [], []⟩ r) : CallOK0 P g vs r := by
  intro w F args hF hargs
  have key : ∀ {v : Value} {w' : World} {F' : Nat → Prop}, CResL (fun _ => False) w F [] r v w' F' → CRes w F r v w' F' := fun {v w' F'} c =>
    ⟨⟨c.below.os, c.below.tape, c.below.output, c.below.size, fun k hk => c.below.block k hk id⟩, c.fsz, fun g hg hlt => c.f0 g hg (fun h => h.elim (fun h => absurd hlt (Nat.not_lt.2 h)) id), RepR.based (fun g h => h.elim id False.elim) c.rep⟩
  rcases h (fun _ => False) w F (fun _ => none) args [] (good_start hF) hargs .nil with ⟨h1, h2⟩ | ⟨v, w', F', h1, h2⟩
  · exact .inl ⟨h1, h2.mono fun e w' ⟨v, F', e1, c⟩ => ⟨v, F', e1, key c⟩⟩
  · exact .inr ⟨v, w', F', h1, key h2⟩
theorem CallOK.of0 {g : FuncId} {vs : List AV} {r : AV} (h : CallOK0 P g vs r) : CallOK P g ⟨vs, [], []⟩ r := by
  intro L w F β args X gd hargs hX
  have key : ∀ {v : Value} {w' : World} {F' : Nat → Prop}, CRes w F r v w' F' → ∃ F', CResL L w F X r v w' F' := fun {v w' F'} c => by
    cases hX
    refine ⟨fun g => F g ∨ F' g, ⟨c.below.os, c.below.tape, c.below.output, c.below.size, fun k hk _ => c.below.block k hk⟩, fun g hg => hg.elim (fun h => Nat.lt_of_lt_of_le (gd.fsz g h) c.below.size) (c.fsz g), fun g hg hn => hg.elim id fun h => ?_, fun g h => .inl h, ?_⟩
    · by_cases hlt : g < w.heap.size
      · exact c.f0 g h hlt
      · exact absurd (.inl (by omega)) hn
    · refine RepR.based (fun g h => .inl h) (RepR.to c.rep (fun g h => .inr h) fun g hg hn hor => hor.elim (fun h => ?_) hn)
      exact absurd (gd.fsz g h) (Nat.not_lt.2 hg)
  have kp : Keeps F F w w β (fun _ => none) [] [] := ⟨fun _ h => h, fun _ _ => rfl, fun h u hu => by obtain ⟨s, e, _⟩ := gd.dom h u hu; simp at e, fun h s hs => by simp at hs⟩
  rcases h w F args gd.fsz (hargs.mono fun _ _ => RepA.mono kp) with ⟨h1, h2⟩ | ⟨v, w', F', h1, h2⟩
  · refine .inl ⟨h1, h2.mono fun e w' ⟨v, F', e1, c⟩ => ?_⟩
    obtain ⟨F2, c2⟩ := key c
    exact ⟨v, F2, e1, c2⟩
  · obtain ⟨F2, c2⟩ := key h2
    exact .inr ⟨v, w', F2, h1, c2⟩
/-! ### What is lent -/
/-- The blocks that are lent. -/
def lendL (β : Bd) (H : Heap) (ord : List Nat) : Nat → Prop := fun g => ∃ h u s, h ∈ ord ∧ H[h]? = some s ∧ s.isLive = true ∧ β h = some u ∧ blk u = some g
theorem lend_lt (gd : Good L w0 w F0 F β H) {ord : List Nat} {g : Nat} (h : lendL β H ord g) : Bs L w0 g ∧ g < w.heap.size ∧ ¬ F g := by
  obtain ⟨h, u, s, _, hs, hl, hu, hg⟩ := h
  exact (gd.slot hu hs).lt hl hg
theorem fb_lt (gd : Good L w0 w F0 F β H) : ∀ g, FB F β H D g → g < w.heap.size := by
  rintro g (h | ⟨h, u, s, _, hs, hl, hu, hg⟩)
  · exact gd.fsz g h
  · exact ((gd.slot hu hs).lt hl hg).2.1
theorem fb_lend (gd : Good L w0 w F0 F β H) {ord : List Nat} (hd : ∀ h, D h → h ∉ ord) {g : Nat} (h : lendL β H ord g) : ¬ FB F β H D g := by
  rintro (hF | ⟨h2, u2, s2, hD, hs2, hl2, hu2, hg2⟩)
  · exact (lend_lt gd h).2.2 hF
  · obtain ⟨h, u, s, hm, hs, hl, hu, hg⟩ := h
    have := gd.sep h h2 s s2 u u2 g hs hs2 hl hl2 hu hu2 hg hg2
    subst this
    exact hd _ hD hm
theorem lend_good (gd : Good L w0 w F0 F β H) {ord : List Nat} (hn : ord.Nodup) (hd : ∀ h, D h → h ∉ ord) : Good (lendL β H ord) w w (FB F β H D) (FB F β H D) (rn β ord) (ord.map fun h => renS ord (slotAt H h)) := by
  have inv : ∀ {i : Nat} {u : Value}, rn β ord i = some u → ∃ h s, ord[i]? = some h ∧ β h = some u ∧ H[h]? = some s ∧ SlotOk (Bs L w0) F w β H s u ∧ (ord.map fun h => renS ord (slotAt H h))[i]? = some (renS ord s) := fun {i u} hu => by
    simp only [rn, Option.bind_eq_some_iff] at hu
    obtain ⟨h, e, hb⟩ := hu
    obtain ⟨s, h1, h2⟩ := gd.dom h u hb
    exact ⟨h, s, e, hb, h1, h2, by rw [ren_slot e, slotAt_some h1]⟩
  have kF : ∀ g, F g → FB F β H D g := fun g h => .inl h
  refine ⟨BelowL.refl _ _, fb_lt gd, fun g h _ => h, fun g h => h, fun i u hu => ?_, fun i i' s s' u u' g e1 e2 l1 l2 b1 b2 g1 g2 => ?_⟩
  · obtain ⟨h, s, e, hb, h1, h2, h3⟩ := inv hu
    have hL : s.isLive = true → ∀ g, blk u = some g → lendL β H ord g := fun hl g hg => ⟨h, u, s, List.mem_of_getElem? e, h1, hl, hb, hg⟩
    refine ⟨_, h3, ?_⟩
    cases s with
    | dead => trivial
    | row l e t xs =>
      cases l with
      | true => exact ⟨h2.1.imp fun c hc => ⟨hc.1, hc.2.mono fun _ _ => RepC.fb⟩, fun g hg => ⟨.inr (hL rfl g hg), fb_lend gd hd (hL rfl g hg)⟩⟩
      | false => exact RepC.fb (t := .sl t) h2
    | box t cs =>
      obtain ⟨g, arr, e', a, b, c, d, f⟩ := h2
      have hg := hL rfl g (by rw [a]; rfl)
      exact ⟨g, arr, e', a, .inr hg, c, (all2_map (S := RepV F w (rn β ord) (ord.map fun h => renS ord (slotAt H h))) (fun _ _ r => ren1_ok r) d).mono fun _ _ => RepV.mono ⟨kF, fun _ _ => rfl, fun _ _ h => h, fun h s hs => ⟨s, hs, like_refl s⟩⟩, fb_lend gd hd hg⟩
    | iter k v es seen =>
      obtain ⟨gi, g, arr, a1, a2, a3, a4, a5, a6, a7, a8⟩ := h2
      have hg := hL rfl gi (by rw [a1]; rfl)
      exact ⟨gi, g, arr, a1, .inr hg, fb_lend gd hd hg, a4, kF _ a5, a6, a7.mono kF fun _ _ => rfl, a8⟩
  · obtain ⟨h, t, e, hb, h1, h2, h3⟩ := inv b1
    obtain ⟨h', t', e', hb', h1', h2', h3'⟩ := inv b2
    rw [e1] at h3
    rw [e2] at h3'
    injection h3 with h3
    injection h3' with h3'
    have l1' : t.isLive = true := by rw [h3] at l1; cases t <;> exact l1
    have l2' : t'.isLive = true := by rw [h3'] at l2; cases t' <;> exact l2
    have := gd.sep h h' t t' u u' g h1 h1' l1' l2' hb hb' g1 g2
    subst this
    exact (List.getElem?_inj (List.getElem?_eq_some_iff.1 e).1 hn).1 (e.trans e'.symm)
theorem fb_keeps {H2 : Heap} {β2 : Bd} : Keeps F (FB F β H D) w w β2 β2 H2 H2 := ⟨fun _ h => .inl h, fun _ _ => rfl, fun _ _ h => h, fun h s hs => ⟨s, hs, like_refl s⟩⟩
theorem packP_ok (gd : Good L w0 w F0 F β H) (hdeep : DeepIn H D) {ord : List Nat} {c c' : PV} {u : Value} (r : RepP F w β H c u) (h : packP H ord c = some c') (hD : ∀ k ∈ hsP c, k ∉ ord → D k) : RepP (FB F β H D) w (rn β ord) (ord.map fun h => renS ord (slotAt H h)) c' u := by
  cases c with
  | ptr k i o =>
    simp only [packP] at h
    split at h
    · have := renP_ok (ord := ord) h r
      cases c' with
      | val => exact RepC.fb this
      | agg => obtain ⟨vs, e, r⟩ := this; exact ⟨vs, e, RepC.fb r⟩
      | fptr => exact RepF.mono (fun _ h => .inl h) (fun _ _ => rfl) this
      | ptr => exact this
    · rename_i hk
      exact pureP_ok gd hdeep r h fun q hq => hD q hq (by simp [hsP] at hq; subst hq; simpa using hk)
  | val t x => simp [packP] at h; subst h; exact RepC.fb r
  | agg t x => simp [packP] at h; subst h; obtain ⟨vs, e, r⟩ := r; exact ⟨vs, e, RepC.fb r⟩
  | fptr t x off => simp [packP] at h; subst h; exact RepF.mono (fun _ h => .inl h) (fun _ _ => rfl) r
theorem packC_ok (gd : Good L w0 w F0 F β H) (hdeep : DeepIn H D) {ord : List Nat} {c c' : CV} {u : Value} (r : RepV F w β H c u) (h : packC H ord c = some c') (hD : ∀ k ∈ hsC c, k ∉ ord → D k) : RepV (FB F β H D) w (rn β ord) (ord.map fun h => renS ord (slotAt H h)) c' u := by
  cases c with
  | ref k =>
    simp only [packC] at h
    split at h
    · injection h with h; subst h; exact (ren1_ok r).mono fb_keeps
    · rename_i hk
      exact pure1_ok gd r h fun q hq => hD q hq (by simp [hsC] at hq; subst hq; simpa using hk)
  | sub k o l =>
    simp only [packC] at h
    split at h
    · injection h with h; subst h; exact (ren1_ok r).mono fb_keeps
    · rename_i hk
      exact pure1_ok gd r h fun q hq => hD q hq (by simp [hsC] at hq; subst hq; simpa using hk)
  | ptr k i o =>
    simp only [packC] at h
    split at h
    · injection h with h; subst h; exact (ren1_ok r).mono fb_keeps
    · rename_i hk
      exact pureC_ok gd hdeep r h fun q hq => hD q hq (by simp [hsC] at hq; subst hq; simpa using hk)
  | fn f a b =>
    simp only [packC, Option.bind_eq_some_iff] at h
    obtain ⟨a', h1, b', h2, h3⟩ := h
    simp at h3
    subst h3
    obtain ⟨va, vb, hv, ra, rb⟩ := r
    refine ⟨va, vb, hv, ?_, ?_⟩
    · exact mapM_pure' (f := packP H ord) (R := RepP F w β H) (fun c hc c' u r hp => packP_ok gd hdeep r hp fun k hk => hD k (by simp only [hsC, List.mem_append, List.mem_flatMap]; exact .inl ⟨c, hc, hk⟩)) ra h1
    · exact mapM_pure' (f := packP H ord) (R := RepP F w β H) (fun c hc c' u r hp => packP_ok gd hdeep r hp fun k hk => hD k (by simp only [hsC, List.mem_append, List.mem_flatMap]; exact .inr ⟨c, hc, hk⟩)) rb h2
  | undef => simp [packC, pure1] at h
  | nils => simp [packC, pure1] at h; subst h; exact r
  | own => simp [packC, pure1] at h
  | int => exact pure1_ok gd r h fun q hq => by simp [hsC] at hq
  | bool => exact pure1_ok gd r h fun q hq => by simp [hsC] at hq
  | str => exact pure1_ok gd r h fun q hq => by simp [hsC] at hq
  | vsl => exact pure1_ok gd r h fun q hq => by simp [hsC] at hq
  | fptr => exact pure1_ok gd r h fun q hq => by simp [hsC] at hq
theorem packA_ok (gd : Good L w0 w F0 F β H) (hdeep : DeepIn H D) {ord : List Nat} {c c' : AV} {u : Value} (r : RepA F w β H c u) (h : packA H ord c = some c') (hD : ∀ k ∈ hsA c, k ∉ ord → D k) : RepA (FB F β H D) w (rn β ord) (ord.map fun h => renS ord (slotAt H h)) c' u := by
  cases c with
  | undef => simp [packA] at h
  | tup => simp [packA] at h
  | one c =>
    simp only [packA, Option.map_eq_some_iff] at h
    obtain ⟨q, h1, rfl⟩ := h
    exact packC_ok gd hdeep r h1 hD
  | agg cs =>
    simp only [packA, Option.map_eq_some_iff] at h
    obtain ⟨q, h1, rfl⟩ := h
    obtain ⟨vs, hv, r⟩ := r
    exact ⟨vs, hv, mapM_pure' (f := packC H ord) (R := RepV F w β H) (fun c hc c' u r hp => packC_ok gd hdeep r hp fun k hk => hD k (by simp only [hsA, List.mem_flatMap]; exact ⟨c, hc, hk⟩)) r h1⟩
/-! ### Behind it -/
theorem kill_at : ∀ {ord : List Nat} {H : Heap} {h : Nat} {s : Slot}, H[h]? = some s → (killAll H ord)[h]? = some (if h ∈ ord then .dead else s)
  | [], H, h, s, hs => by simpa [killAll] using hs
  | k :: r, H, h, s, hs => by
    simp only [killAll]
    by_cases e : h = k
    · subst e
      rw [kill_at (set_at hs)]
      simp
    · rw [kill_at (by rw [set_ne e]; exact hs)]
      simp [e]
theorem kill_len : ∀ {ord : List Nat} {H : Heap}, (killAll H ord).length = H.length
  | [], _ => rfl
  | k :: r, H => by simp [killAll, kill_len]
theorem kill_some {ord : List Nat} {H : Heap} {h : Nat} {s : Slot} (e : (killAll H ord)[h]? = some s) : ∃ s0, H[h]? = some s0 ∧ s = if h ∈ ord then .dead else s0 := by
  have hl := (List.getElem?_eq_some_iff.1 e).1
  rw [kill_len] at hl
  have e0 := List.getElem?_eq_getElem hl
  have := kill_at (ord := ord) e0
  rw [e] at this
  injection this with this
  exact ⟨_, e0, this⟩
theorem kill_like {ord : List Nat} : ∀ (h : Nat) (s : Slot), H[h]? = some s → ∃ s', (killAll H ord)[h]? = some s' ∧ Like s s' := fun h s hs => ⟨_, kill_at hs, by
  split
  · cases s <;> trivial
  · exact like_refl s⟩
theorem freeze_other : ∀ {hs : List Nat} {H H' : Heap}, freeze H hs = some H' → ∀ {h : Nat}, h ∉ hs → H'[h]? = H[h]?
  | [], H, H', h, q, _ => by simp [freeze] at h; subst h; rfl
  | k :: r, H, H', hf, q, hq => by
    simp only [freeze] at hf
    split at hf
    · rw [freeze_other hf (by simp at hq; exact hq.2), set_ne (by simp at hq; exact hq.1)]
    · simp at hf
theorem freeze_len : ∀ {hs : List Nat} {H H' : Heap}, freeze H hs = some H' → H'.length = H.length
  | [], H, H', h => by simp [freeze] at h; subst h; rfl
  | k :: r, H, H', hf => by
    simp only [freeze] at hf
    split at hf
    · rw [freeze_len hf]; simp
    · simp at hf
theorem freeze_box : ∀ {hs : List Nat} {H H' : Heap}, freeze H hs = some H' → ∀ {k : Nat} {t : Ty} {cs : List CV}, H[k]? = some (.box t cs) → H'[k]? = some (.box t cs)
  | [], H, H', h, k, t, cs, hk => by simp [freeze] at h; subst h; exact hk
  | q :: r, H, H', hf, k, t, cs, hk => by
    simp only [freeze] at hf
    split at hf
    · rename_i l e t2 xs hs
      refine freeze_box hf ?_
      rw [set_ne]
      · exact hk
      · intro e; subst e; rw [slotAt_some hk] at hs; simp at hs
    · simp at hf
/-- What is put in its place. -/
theorem put_spec : ∀ {hsL : List Nat} {parts : List (Bool × List CV)} {H2 H3 : Heap}, putParts H hsL parts H2 = some H3 → hsL.Nodup → H.length ≤ H2.length →
    ∃ mv : List Nat, (∀ k ∈ mv, H.length ≤ k) ∧ (∀ q, q ∉ hsL → q ∉ mv → H3[q]? = H2[q]?) ∧ (∀ q ∈ mv, H3[q]? = some .dead) ∧
      ∀ (j h : Nat), hsL[j]? = some h → ∃ p, parts[j]? = some p ∧ ((∃ t cs0, H[h]? = some (.box t cs0) ∧ H3[h]? = some (.box t p.2)) ∨
        (∃ e t xs k e' xs', H[h]? = some (.row true e t xs) ∧ p.2 = [.ref k] ∧ k ∈ mv ∧ H2[k]? = some (.row true e' t xs') ∧ H3[h]? = some (.row true e' t xs')))
  | [], parts, H2, H3, h, _, _ => by
    simp [putParts] at h
    subst h
    exact ⟨[], fun k hk => by simp at hk, fun _ _ _ => rfl, fun q hq => by simp at hq, fun j h hj => by simp at hj⟩
  | h :: r, [], H2, H3, hp, _, _ => by simp [putParts] at hp
  | h :: r, (b, cs) :: us, H2, H3, hp, hn, hl => by
    have hnr := (List.nodup_cons.1 hn)
    simp only [putParts] at hp
    split at hp
    · rename_i t cs0 hs
      have hH := slotAt_row hs (by simp)
      have hlt := (List.getElem?_eq_some_iff.1 hH).1
      obtain ⟨mv, a0, a1, a2, a3⟩ := put_spec hp hnr.2 (by simpa using hl)
      have hmv : h ∉ mv := fun hm => by have := a0 h hm; omega
      have hset : (H2.set h (.box t cs))[h]? = some (.box t cs) := List.getElem?_set_self (by omega)
      refine ⟨mv, a0, fun q hq hm => ?_, a2, fun j k hj => ?_⟩
      · simp at hq
        rw [a1 q hq.2 hm, set_ne hq.1]
      · cases j with
        | zero =>
          simp at hj
          subst hj
          exact ⟨(b, cs), rfl, .inl ⟨t, cs0, hH, by rw [a1 h hnr.1 hmv]; exact hset⟩⟩
        | succ j =>
          simp at hj
          obtain ⟨p, e1, e2⟩ := a3 j k hj
          refine ⟨p, by simpa using e1, e2.imp id fun ⟨e, t', xs, k', e', xs', b1, b2, b3, b4, b5⟩ => ⟨e, t', xs, k', e', xs', b1, b2, b3, ?_, b5⟩⟩
          rw [set_ne (by have := a0 k' b3; omega)] at b4
          exact b4
    · rename_i e t xs hs
      have hH := slotAt_row hs (by simp)
      have hlt := (List.getElem?_eq_some_iff.1 hH).1
      split at hp
      case h_2 => simp at hp
      rename_i k
      split at hp
      case h_2 => simp at hp
      rename_i e' t' xs' hk
      split at hp
      case isFalse => simp at hp
      rename_i hc
      obtain ⟨rfl, hkl⟩ := hc
      have hK := slotAt_row hk (by simp)
      have hklt := (List.getElem?_eq_some_iff.1 hK).1
      obtain ⟨mv, a0, a1, a2, a3⟩ := put_spec hp hnr.2 (by simpa using hl)
      have hmv : h ∉ mv := fun hm => by have := a0 h hm; omega
      have hset : ((H2.set k .dead).set h (.row true e' t' xs'))[h]? = some (.row true e' t' xs') := List.getElem?_set_self (by simp; omega)
      have hkd : ((H2.set k .dead).set h (.row true e' t' xs'))[k]? = some .dead := by rw [set_ne (by omega)]; exact List.getElem?_set_self hklt
      refine ⟨k :: mv, fun q hq => ?_, fun q hq hm => ?_, fun q hq => ?_, fun j q hj => ?_⟩
      · rcases List.mem_cons.1 hq with rfl | hq
        · exact hkl
        · exact a0 q hq
      · simp at hq hm
        rw [a1 q hq.2 hm.2, set_ne hq.1, set_ne hm.1]
      · by_cases hqm : q ∈ mv
        · exact a2 q hqm
        · rcases List.mem_cons.1 hq with rfl | hq
          · by_cases hqr : q ∈ r
            · obtain ⟨j, hj⟩ := List.getElem?_of_mem hqr
              obtain ⟨p, _, e2⟩ := a3 j q hj
              rcases e2 with ⟨t, cs0, b1, _⟩ | ⟨_, _, _, _, _, _, b1, _⟩
              · have := (List.getElem?_eq_some_iff.1 b1).1; omega
              · have := (List.getElem?_eq_some_iff.1 b1).1; omega
            · rw [a1 q hqr hqm]; exact hkd
          · exact absurd hq hqm
      · cases j with
        | zero =>
          simp at hj
          subst hj
          exact ⟨(b, [.ref k]), rfl, .inr ⟨e, t', xs, k, e', xs', hH, rfl, by simp, hK, by rw [a1 h hnr.1 hmv]; exact hset⟩⟩
        | succ j =>
          simp at hj
          obtain ⟨p, e1, e2⟩ := a3 j q hj
          refine ⟨p, by simpa using e1, e2.imp id fun ⟨e3, t3, xs3, k3, e3', xs3', b1, b2, b3, b4, b5⟩ => ⟨e3, t3, xs3, k3, e3', xs3', b1, b2, by simp [b3], ?_, b5⟩⟩
          have hk3 := a0 k3 b3
          rw [set_ne (by omega)] at b4
          by_cases ek : k3 = k
          · subst ek; rw [List.getElem?_set_self hklt] at b4; simp at b4
          · rw [set_ne ek] at b4; exact b4
    · simp at hp
theorem RepU.mono (k : Keeps F F' w w' β β' H H') {p : Bool × List CV} {v : Value} (r : RepU F w β H p v) : RepU F' w' β' H' p v := by
  rcases p with ⟨b, cs⟩
  cases b with
  | true => obtain ⟨ws, e, r⟩ := r; exact ⟨ws, e, r.mono fun _ _ => RepV.mono k⟩
  | false => obtain ⟨c, e, r⟩ := r; exact ⟨c, e, r.mono k⟩
/-- Behind a call that was lent something. -/
theorem after_ok (gd : Good L w0 w F0 F β H) {ord hsL hs : List Nat} {roots : List CV} {X : List Value} {r v' : AV} {v : Value} {H3 : Heap}
    (hord : ∀ h ∈ hsL, h ∈ ord) (hnd : hsL.Nodup) (hrows : ∀ h ∈ hs, (∃ l e t xs, H[h]? = some (.row l e t xs)) ∧ h ∉ ord)
    (hr : All2 (fun h c => (∃ k t cs, c = .ptr k 0 0 ∧ H[h]? = some (.box t cs)) ∨ ∃ k e t xs, c = .ref k ∧ H[h]? = some (.row true e t xs)) hsL roots) (hX : All2 (fun h x => β h = some x) hsL X) (hne : X ≠ [])
    (hc : CResL (lendL β H ord) w (FB F β H (Dp H hs)) X r v w' F') (h : afterL H hsL hs ord r = some (v', H3)) :
    ∃ F2 β2, Good L w0 w' F0 F2 β2 H3 ∧ Keeps F F2 w w' β β2 H H3 ∧ RepA F2 w' β2 H3 v' v := by
  obtain ⟨us, ws, rfl, hv, vals, cts, hrv, hcl, hcont⟩ : ∃ us ws, r = .tup us ∧ v = oneOf ws ∧ RepL (Bs (lendL β H ord) w) F' w' X us ws := by
    have := hc.rep
    cases X with
    | nil => exact absurd rfl hne
    | cons c r => exact this
  unfold afterL at h
  simp only [] at h
  split at h
  · simp at h
  rename_i Hf hfz
  -- what is frozen
  obtain ⟨F1, g1, k1, hfo, hal, hlen⟩ : ∃ F1, Good L w0 w F0 F1 β Hf ∧ Keeps F F1 w w β β H Hf ∧ (∀ h, h ∉ hs → Hf[h]? = H[h]?) ∧ (us.any (fun p => p.2.any alias1) = true → ∀ g, FB F β H (Dp H hs) g → F1 g) ∧ Hf.length = H.length := by
    cases ha : us.any (fun p => p.2.any alias1) with
    | false =>
      rw [ha] at hfz
      injection hfz with hfz
      subst hfz
      exact ⟨F, gd, ⟨fun _ h => h, fun _ _ => rfl, fun _ _ h => h, fun h s hs => ⟨s, hs, like_refl s⟩⟩, fun _ _ => rfl, fun h => by simp at h, rfl⟩
    | true =>
      rw [ha] at hfz
      obtain ⟨F1, g1, k1, b1, _⟩ := freeze_ok gd hfz
      refine ⟨F1, g1, k1, fun h hh => freeze_other hfz hh, fun _ g hg => ?_, freeze_len hfz⟩
      rcases hg with hg | ⟨h, u, s, hd, hs', hl, hb, hg'⟩
      · exact k1.f g hg
      · exact b1 h (dp_rows (fun h hh => (hrows h hh).1) hd) s u g hs' hl hb hg'
  have hno : ∀ {q : Nat}, q ∈ ord → Hf[q]? = H[q]? := fun {q} hq => hfo q fun hh => (hrows q hh).2 hq
  have hLf : ∀ {g : Nat}, lendL β H ord g → lendL β Hf ord g := fun {g} ⟨h, u, s, a, b, c⟩ => ⟨h, u, s, a, (hno a).trans b, c⟩
  have hL1 : ∀ {g : Nat}, lendL β H ord g → Bs L w0 g ∧ g < w.heap.size ∧ ¬ F1 g := fun hg => lend_lt g1 (hLf hg)
  have hsz := hc.below.size
  have hBs : ∀ g, Bs (lendL β H ord) w g → Bs L w0 g := fun g hg => hg.elim (fun h => .inl (Nat.le_trans gd.below.size h)) fun h => (hL1 h).1
  have hB1 : ∀ g, Bs (lendL β H ord) w g → ¬ F1 g := fun g hg => hg.elim (fun h hF => absurd (g1.fsz g hF) (Nat.not_lt.2 h)) fun h => (hL1 h).2.2
  -- one's own slots that are not lent
  have hold : ∀ {q : Nat} {s : Slot} {u : Value} {g : Nat}, Hf[q]? = some s → s.isLive = true → β q = some u → blk u = some g → q ∉ ord → ¬ Bs (lendL β H ord) w g := fun {q s u g} hs hl hu hg hq => by
    have hlt := ((g1.slot hu hs).lt hl hg).2.1
    rintro (h | h)
    · exact absurd hlt (Nat.not_lt.2 h)
    · obtain ⟨q2, u2, s2, hm, hs2, hl2, hu2, hg2⟩ := hLf h
      have := g1.sep q q2 s s2 u u2 g hs hs2 hl hl2 hu hu2 hg hg2
      subst this
      exact hq hm
  let Fa : Nat → Prop := fun g => F1 g ∨ (Bs (lendL β H ord) w g ∧ F' g)
  have hmem : ∀ g, g < w.heap.size → ¬ Bs (lendL β H ord) w g → w'.heap[g]? = w.heap[g]? := fun g hlt hn => hc.below.block g hlt fun h => hn (.inr h)
  have hF1w : ∀ g, F1 g → w'.heap[g]? = w.heap[g]? := fun g hg => hmem g (g1.fsz g hg) fun h => hB1 g h hg
  have hnFa : ∀ g, Bs (lendL β H ord) w g → ¬ F' g → ¬ Fa g := fun g hb hn hor => hor.elim (hB1 g hb) fun h => hn h.2
  have hrv2 : RepRV (Bs (lendL β H ord) w) Fa w' vals (.tup us) (.tuple (cts ++ ws).toArray) := by
    cases ha : us.any (fun p => p.2.any alias1) with
    | false => exact RepRV.flat (r := .tup us) ha hrv hnFa
    | true =>
      refine RepRV.to hrv (fun g hg => ?_) hnFa
      by_cases hb : Bs (lendL β H ord) w g
      · exact .inr ⟨hb, hg⟩
      · exact .inl (hal ha g (hc.f0 g hg hb))
  obtain ⟨hvl, hdis, hall⟩ := hrv2
  -- the heap with all slots
  obtain ⟨H4, hput, h⟩ := Option.bind_eq_some_iff.1 h
  have hkl : (killAll Hf ord).length = H.length := by rw [kill_len, hlen]
  have hsl0 : (adoptT us (killAll Hf ord).length).2 = (adoptA (.tup us) 0).2 := adoptT_slots us _ 0
  have hus0 : (adoptT us (killAll Hf ord).length).1 = (adoptT us H.length).1 := by rw [hkl]
  rw [hsl0] at hput
  rw [hus0] at hput h
  generalize hslE : (adoptA (.tup us) 0).2 = sl at hput hvl hall
  obtain ⟨mv, m0, m1, m2, m3⟩ := put_spec hput hnd (by rw [List.length_append, hkl]; omega)
  have hat : ∀ (j : Nat) (s : Slot), sl[j]? = some s → (Hf ++ sl)[H.length + j]? = some s := fun j s hs => by
    rw [List.getElem?_append_right (by omega)]; simpa [hlen] using hs
  have hat2 : ∀ (j : Nat) (s : Slot), sl[j]? = some s → (killAll Hf ord ++ sl)[H.length + j]? = some s := fun j s hs => by
    rw [List.getElem?_append_right (by omega)]; simpa [hkl] using hs
  have hfree : ∀ j, j < vals.length → β (H.length + j) = none := fun j _ => free_end gd j
  let β2 : Bd := ext β H.length vals
  have hb2 : ∀ q u, β q = some u → β2 q = some u := fun q u => ext_old hfree
  obtain ⟨hrep, hslots⟩ := hall H.length β2 (Hf ++ sl) (by simpa using hat) fun j u hu => ext_new hu
  have hordlt : ∀ {q : Nat} {s : Slot}, H[q]? = some s → q < H.length := fun hs => (List.getElem?_eq_some_iff.1 hs).1
  -- the end's slots
  have e_old : ∀ {q : Nat} {s : Slot}, q ∉ ord → Hf[q]? = some s → H4[q]? = some s := fun {q s} hq hs => by
    have hlt := (List.getElem?_eq_some_iff.1 hs).1
    rw [m1 q (fun h => hq (hord q h)) (fun h => by have := m0 q h; omega), List.getElem?_append_left (by rw [kill_len]; exact hlt), kill_at hs, if_neg hq]
  have e_dead : ∀ {q : Nat} {s : Slot}, q ∈ ord → q ∉ hsL → Hf[q]? = some s → H4[q]? = some .dead := fun {q s} hq hq2 hs => by
    have hlt := (List.getElem?_eq_some_iff.1 hs).1
    rw [m1 q hq2 (fun h => by have := m0 q h; omega), List.getElem?_append_left (by rw [kill_len]; exact hlt), kill_at hs, if_pos hq]
  have e_new : ∀ {j : Nat} {s : Slot}, sl[j]? = some s → H.length + j ∉ mv → H4[H.length + j]? = some s := fun {j s} hs hm => by
    rw [m1 _ (fun h => by
      obtain ⟨i, hi⟩ := List.getElem?_of_mem h
      obtain ⟨p, _, e⟩ := m3 i _ hi
      rcases e with ⟨_, _, e, _⟩ | ⟨_, _, _, _, _, _, e, _⟩ <;> (have := hordlt e; omega)) hm]
    exact hat2 j s hs
  -- each root
  have hrepA := hrep
  obtain ⟨Vs, hVs, hall2⟩ := hrep
  have hVs' : Vs.toList = cts ++ ws := by
    injection hVs with hVs
    rw [← hVs]
  have hall3 : All2 (RepU Fa w' β2 (Hf ++ sl)) (adoptT us H.length).1 (cts ++ ws) := by rw [← hVs']; exact hall2.mono fun u v h => h
  have hXlen : X.length = hsL.length := hX.length.symm
  have hctl : cts.length = hsL.length := by rw [hcl, hXlen]
  have root : ∀ {i q : Nat}, hsL[i]? = some q → ∃ x s s', X[i]? = some x ∧ β q = some x ∧ Hf[q]? = some s ∧ H4[q]? = some s' ∧ s.isLive = true ∧ s'.isLive = true ∧
      ((∃ t cs0 cs g arr e, s = .box t cs0 ∧ s' = .box t cs ∧ x = .pointer (some ⟨g, 0, none⟩) ∧ w'.heap[g]? = some (.cells arr e (0, 0)) ∧ Bs (lendL β H ord) w g ∧ ¬ F' g ∧ All2 (RepV Fa w' β2 (Hf ++ sl)) cs arr.toList ∧ ∀ (j : Nat) (u : Value), vals[j]? = some u → blk u ≠ some g) ∨
       (∃ e t xs j e' xs', s = .row true e t xs ∧ s' = .row true e' t xs' ∧ H.length + j ∈ mv ∧ sl[j]? = some s' ∧ vals[j]? = some x)) := fun {i q} hq => by
    obtain ⟨x, hx, hbx⟩ := hX.get hq
    obtain ⟨c, hcr, hkind⟩ := hr.get hq
    obtain ⟨p, hp, hspec⟩ := m3 i q hq
    have hqm : q ∈ ord := hord q (List.mem_of_getElem? hq)
    have hi : i < hsL.length := (List.getElem?_eq_some_iff.1 hq).1
    have hp' : (adoptT us H.length).1[i]? = some p := by
      rwa [List.getElem?_take, if_pos hi] at hp
    obtain ⟨ct, hct, hru⟩ := hall3.get hp'
    have hct' : cts[i]? = some ct := by rwa [List.getElem?_append_left (by omega)] at hct
    have hco := hcont i x ct hx hct'
    rcases hkind with ⟨k, t, cs, rfl, hHq⟩ | ⟨k, e, t, xs, rfl, hHq⟩
    · obtain ⟨g, arr, e, hxg, hcta, hgarr, hB, hnF, hvd⟩ : ∃ g arr e, x = .pointer (some ⟨g, 0, none⟩) ∧ ct = .agg arr ∧ w'.heap[g]? = some (.cells arr e (0, 0)) ∧ Bs (lendL β H ord) w g ∧ ¬ F' g ∧ ∀ (j : Nat) (u : Value), vals[j]? = some u → blk u ≠ some g := by
        rcases hco with ⟨⟨A, n, c, e1⟩ | ⟨g1, e1⟩, _⟩ | h
        · obtain ⟨g, arr, e, e2, _⟩ := gd.slot hbx hHq
          rw [e1] at e2; simp at e2
        · obtain ⟨g, arr, e, e2, _⟩ := gd.slot hbx hHq
          rw [e1] at e2; simp at e2
        · exact h
      rcases hspec with ⟨t', cs0, b1, b2⟩ | ⟨_, _, _, _, _, _, b1, _⟩
      · rw [hHq] at b1
        injection b1 with b1
        injection b1 with b1 b1'
        subst b1 b1'
        rcases p with ⟨b, cs'⟩
        subst hcta
        have hcs : All2 (RepV Fa w' β2 (Hf ++ sl)) cs' arr.toList := by
          cases b with
          | true => obtain ⟨ws', e1, r⟩ := hru; injection e1 with e1; subst e1; exact r
          | false =>
            obtain ⟨c, rfl, r⟩ := hru
            have := r.one
            simp [Value.oneCell'] at this
        exact ⟨x, _, _, hx, hbx, (hno hqm).trans hHq, b2, rfl, rfl, .inl ⟨t, cs, cs', g, arr, e, rfl, rfl, hxg, hgarr, hB, hnF, hcs, hvd⟩⟩
      · rw [hHq] at b1; simp at b1
    · rcases hspec with ⟨t', cs0, b1, b2⟩ | ⟨e2, t2, xs2, k2, e2', xs2', b1, b2, b3, b4, b5⟩
      · rw [hHq] at b1; simp at b1
      · rw [hHq] at b1
        injection b1 with b1
        injection b1 with _ a1 a2 a3
        subst a1 a2
        have hk2 := m0 k2 b3
        rw [List.getElem?_append_right (by omega), hkl] at b4
        have hk4 : (Hf ++ sl)[k2]? = some (.row true e2' t xs2') := by
          have := hat (k2 - H.length) _ b4
          rwa [show H.length + (k2 - H.length) = k2 by omega] at this
        have hcx : ct = x := by
          rcases hco with ⟨_, e1⟩ | ⟨g, arr, e, e1, _⟩
          · exact e1
          · obtain ⟨⟨_, ho, _⟩, _⟩ := gd.slot hbx hHq
            rcases ownsT_kind ho with ⟨_, A, c, h⟩ | ⟨g, _, h⟩
            · rw [h] at e1; simp at e1
            · rw [h] at e1; simp at e1
        subst hcx
        have hrk : RepV Fa w' β2 (Hf ++ sl) (.ref k2) ct := by
          rcases p with ⟨b, cs'⟩
          have b2 : cs' = [.ref k2] := b2
          subst b2
          cases b with
          | true => 
            obtain ⟨ws', e1, r⟩ := hru
            have := gd.slot hbx hHq
            obtain ⟨⟨cells, ho, _⟩, _⟩ := this
            rcases ownsT_kind ho with ⟨_, A, c, h⟩ | ⟨g, _, h⟩
            · rw [h] at e1; simp at e1
            · rw [h] at e1; simp at e1
          | false => obtain ⟨c, e1, r⟩ := hru; injection e1 with e1; subst e1; exact r
        simp only [RepV, hk4] at hrk
        have hvk : vals[k2 - H.length]? = some ct := by
          have hh := hrk.1
          rcases ext_some hh with ⟨j, hj, hju⟩ | hh
          · have : k2 - H.length = j := by omega
            rw [this]; exact hju
          · obtain ⟨s9, h9, _⟩ := gd.dom _ _ hh
            have := hordlt h9
            omega
        exact ⟨ct, _, _, hx, hbx, (hno hqm).trans hHq, b5, rfl, rfl, .inr ⟨e, t, xs, k2 - H.length, e2', xs2', rfl, rfl, by rw [show H.length + (k2 - H.length) = k2 by omega]; exact b3, b4, hvk⟩⟩
  -- rows keep their lengths
  have hslot : ∀ {j : Nat} {s : Slot} {u : Value}, sl[j]? = some s → vals[j]? = some u → SlotOk (Bs (lendL β H ord) w) Fa w' β2 (Hf ++ sl) s u := fun h1 h2 => hslots _ _ _ h1 h2
  have hlike : ∀ (q : Nat) (s : Slot), Hf[q]? = some s → ∃ s', H4[q]? = some s' ∧ Like s s' := fun q s hs => by
    by_cases hq : q ∈ ord
    · by_cases hq2 : q ∈ hsL
      · obtain ⟨i, hi⟩ := List.getElem?_of_mem hq2
        obtain ⟨x, s1, s', hx, hbx, e1, e2, l1, l2, hk⟩ := root hi
        rw [hs] at e1
        injection e1 with e1
        subst e1
        refine ⟨s', e2, ?_⟩
        rcases hk with ⟨t, cs0, cs, g, arr, e, rfl, rfl, _⟩ | ⟨e, t, xs, j, e', xs', rfl, rfl, _, hj, hvj⟩
        · trivial
        · refine ⟨rfl, fun hm => ?_, id⟩
          obtain ⟨⟨c1, a1, _⟩, _⟩ := g1.slot hbx hs
          obtain ⟨⟨c2, b1, _⟩, _⟩ := hslot hj hvj
          rcases ownsT_kind a1 with ⟨_, A, c, a2⟩ | ⟨g, hm', _⟩
          · rcases ownsT_kind b1 with ⟨_, B, d, b2⟩ | ⟨g, hm', _⟩
            · rw [a2] at b2; simp at b2; exact b2.2.1.symm
            · rw [hm] at hm'; simp at hm'
          · rw [hm] at hm'; simp at hm'
      · exact ⟨_, e_dead hq hq2 hs, by cases s <;> trivial⟩
    · exact ⟨s, e_old hq hs, like_refl s⟩
  have kpf : Keeps F1 Fa w w' β β2 Hf H4 := ⟨fun _ h => .inl h, hF1w, hb2, hlike⟩
  have kpn : Keeps Fa Fa w' w' β2 β2 (Hf ++ sl) H4 := ⟨fun _ h => h, fun _ _ => rfl, fun _ _ h => h, fun q s hs => by
    by_cases hq : q < Hf.length
    · rw [List.getElem?_append_left hq] at hs
      exact hlike q s hs
    · rw [List.getElem?_append_right (by omega)] at hs
      have hq' : H.length + (q - Hf.length) = q := by omega
      by_cases hm : q ∈ mv
      · exact ⟨_, m2 q hm, by cases s <;> trivial⟩
      · have := e_new hs (by rw [hq']; exact hm)
        rw [hq'] at this
        exact ⟨s, this, like_refl s⟩⟩
  -- whose a live slot at the end is
  have cls : ∀ {q : Nat} {s : Slot} {u : Value}, H4[q]? = some s → s.isLive = true → β2 q = some u →
      (Hf[q]? = some s ∧ q ∉ ord ∧ β q = some u) ∨ (q ∈ hsL ∧ β q = some u ∧ ∃ s0, Hf[q]? = some s0 ∧ s0.isLive = true) ∨ (∃ j, q = H.length + j ∧ q ∉ mv ∧ vals[j]? = some u ∧ sl[j]? = some s) := fun {q s u} hs hl hu => by
    rcases ext_some hu with ⟨j, rfl, hj⟩ | hu'
    · right; right
      have hjl : j < sl.length := by rw [← hvl]; exact (List.getElem?_eq_some_iff.1 hj).1
      have hsj := List.getElem?_eq_getElem hjl
      by_cases hm : H.length + j ∈ mv
      · rw [m2 _ hm] at hs; injection hs with hs; subst hs; simp [Slot.isLive] at hl
      · have := e_new hsj hm
        rw [hs] at this
        injection this with this
        subst this
        exact ⟨j, rfl, hm, hj, hsj⟩
    · obtain ⟨s0, h0, _⟩ := g1.dom q u hu'
      by_cases hq : q ∈ ord
      · by_cases hq2 : q ∈ hsL
        · obtain ⟨i, hi⟩ := List.getElem?_of_mem hq2
          obtain ⟨x, s1, s', hx, hbx, e1, e2, l1, l2, hk⟩ := root hi
          exact .inr (.inl ⟨hq2, hu', s1, e1, l1⟩)
        · rw [e_dead hq hq2 h0] at hs; injection hs with hs; subst hs; simp [Slot.isLive] at hl
      · left
        have := e_old hq h0
        rw [hs] at this
        injection this with this
        subst this
        exact ⟨h0, hq, hu'⟩
  have hvB : ∀ {j : Nat} {u : Value} {g : Nat}, vals[j]? = some u → blk u = some g → Bs (lendL β H ord) w g := fun {j u g} hu hg => by
    have hjl : j < sl.length := by rw [← hvl]; exact (List.getElem?_eq_some_iff.1 hu).1
    have hsj := List.getElem?_eq_getElem hjl
    obtain ⟨e, t, xs, hq⟩ := adoptA_rows (.tup us) 0 sl[j] (by rw [hslE]; exact List.getElem_mem hjl)
    have := hslot hsj hu
    rw [hq] at this
    exact (this.lt rfl hg).1
  -- a root's block is nobody else's
  have hRC : ∀ {q : Nat} {u : Value} {g j : Nat} {u' : Value}, q ∈ hsL → β q = some u → blk u = some g → vals[j]? = some u' → H.length + j ∉ mv → blk u' = some g → False := fun {q u g j u'} hq hu hg hj hm hg' => by
    obtain ⟨i, hi⟩ := List.getElem?_of_mem hq
    obtain ⟨x, s1, s', hx, hbx, e1, e2, l1, l2, hk⟩ := root hi
    rw [hu] at hbx; injection hbx with hbx; subst hbx
    rcases hk with ⟨t, cs0, cs, g', arr, e, rfl, rfl, hxg, _, _, _, _, hvd⟩ | ⟨e, t, xs, j', e', xs', rfl, rfl, hm', hj', hvj⟩
    · rw [hxg] at hg; simp [blk] at hg; subst hg
      exact hvd j u' hj hg'
    · have := hdis j' j u u' g hvj hj hg hg'
      subst this
      exact hm hm'
  have good : Good L w0 w' F0 Fa β2 H4 := by
    refine ⟨⟨hc.below.os.trans gd.below.os, hc.below.tape.trans gd.below.tape, hc.below.output.trans gd.below.output, Nat.le_trans gd.below.size hc.below.size, fun k hk hnL => ?_⟩, fun g hg => ?_, fun g hg hn => ?_, fun g hg => .inl (g1.f1 g hg), fun q u hu => ?_, fun q q' s1 s2 u1 u2 g e1 e2 l1 l2 b1 b2 g1' g2' => ?_⟩
    · have hkw : k < w.heap.size := Nat.lt_of_lt_of_le hk gd.below.size
      refine (hc.below.block k hkw fun h => ?_).trans (gd.below.block k hk hnL)
      exact (hL1 h).1.elim (fun h => absurd hk (Nat.not_lt.2 h)) hnL
    · rcases hg with hg | hg
      · exact Nat.lt_of_lt_of_le (g1.fsz g hg) hsz
      · exact hc.fsz g hg.2
    · rcases hg with hg | hg
      · exact g1.f0 g hg hn
      · exact absurd (hBs g hg.1) hn
    · rcases ext_some hu with ⟨j, rfl, hj⟩ | hu'
      · have hjl : j < sl.length := by rw [← hvl]; exact (List.getElem?_eq_some_iff.1 hj).1
        have hsj := List.getElem?_eq_getElem hjl
        by_cases hm : H.length + j ∈ mv
        · exact ⟨.dead, m2 _ hm, trivial⟩
        · exact ⟨_, e_new hsj hm, slot_base hBs ((hslot hsj hj).keep kpn fun _ _ _ => ⟨rfl, id⟩)⟩
      · obtain ⟨s0, h0, ok0⟩ := g1.dom q u hu'
        by_cases hq : q ∈ ord
        · by_cases hq2 : q ∈ hsL
          · obtain ⟨i, hi⟩ := List.getElem?_of_mem hq2
            obtain ⟨x, s1, s', hx, hbx, e1, e2, l1, l2, hk⟩ := root hi
            rw [hu'] at hbx; injection hbx with hbx; subst hbx
            refine ⟨s', e2, ?_⟩
            rcases hk with ⟨t, cs0, cs, g', arr, e, rfl, rfl, hxg, harr, hB, hnF, hcs, hvd⟩ | ⟨e, t, xs, j', e', xs', rfl, rfl, hm', hj', hvj⟩
            · exact ⟨g', arr, e, hxg, hBs g' hB, harr, hcs.mono fun _ _ => RepV.mono kpn, hnFa g' hB hnF⟩
            · exact slot_base hBs ((hslot hj' hvj).keep kpn fun _ _ _ => ⟨rfl, id⟩)
          · exact ⟨_, e_dead hq hq2 h0, trivial⟩
        · refine ⟨s0, e_old hq h0, ok0.keep kpf fun hl g hg => ?_⟩
          have hn := hold h0 hl hu' hg hq
          exact ⟨hmem g (ok0.lt hl hg).2.1 hn, fun hnF hor => hor.elim hnF fun h => hn h.1⟩
    · rcases cls e1 l1 b1 with ⟨a1, a2, a3⟩ | ⟨a1, a2, s0, a3, a4⟩ | ⟨j, a1, a2, a3, a4⟩ <;> rcases cls e2 l2 b2 with ⟨c1, c2, c3⟩ | ⟨c1, c2, s0', c3, c4⟩ | ⟨j', c1, c2, c3, c4⟩
      · exact g1.sep q q' s1 s2 u1 u2 g a1 c1 l1 l2 a3 c3 g1' g2'
      · exact g1.sep q q' s1 s0' u1 u2 g a1 c3 l1 c4 a3 c2 g1' g2'
      · exact absurd (hvB c3 g2') (hold a1 l1 a3 g1' a2)
      · exact g1.sep q q' s0 s2 u1 u2 g a3 c1 a4 l2 a2 c3 g1' g2'
      · exact g1.sep q q' s0 s0' u1 u2 g a3 c3 a4 c4 a2 c2 g1' g2'
      · subst c1; exact (hRC a1 a2 g1' c3 c2 g2').elim
      · exact absurd (hvB a3 g1') (hold c1 l2 c3 g2' c2)
      · subst a1; exact (hRC c1 c2 g2' a3 a2 g1').elim
      · rw [a1, c1, hdis j j' u1 u2 g a3 c3 g1' g2']
  refine ⟨Fa, β2, ?_⟩
  have hws : All2 (RepU Fa w' β2 H4) ((adoptT us H.length).1.drop hsL.length) ws := by
    have := hall3.drop hsL.length
    rw [List.drop_append, hctl] at this
    simp only [Nat.sub_self, List.drop_zero] at this
    rw [List.drop_of_length_le (l := cts) (by omega), List.nil_append] at this
    exact this.mono fun _ _ => RepU.mono kpn
  have hres : H4 = H3 ∧ RepA Fa w' β2 H4 v' v := by
    rw [hv]
    split at h
    · rename_i u hu
      rw [hu] at hws
      simp only [Option.map_eq_some_iff] at h
      obtain ⟨v1, h1, h2⟩ := h
      simp at h2
      obtain ⟨rfl, rfl⟩ := h2
      refine ⟨rfl, ?_⟩
      cases hws with
      | cons r t =>
        cases t
        simp only [oneOf]
        rw [dif_pos (by simp)]
        rcases u with ⟨b, cs⟩
        cases b with
        | true => simp [mkAV] at h1; subst h1; exact r
        | false =>
          obtain ⟨c, e, r⟩ := r
          have e : cs = [c] := e
          subst e
          simp [mkAV] at h1
          subst h1
          exact r
    · rename_i hne1
      simp at h
      obtain ⟨rfl, rfl⟩ := h
      refine ⟨rfl, ?_⟩
      have hl1 : ¬ ws.toArray.size = 1 := by
        intro h1
        have hl := hws.length
        simp at h1
        rw [h1] at hl
        obtain ⟨u, hu⟩ := List.length_eq_one_iff.1 hl
        exact hne1 u hu
      simp only [oneOf]
      rw [dif_neg hl1]
      exact ⟨ws.toArray, rfl, hws.mono fun u v h => h⟩
  obtain ⟨rfl, hra⟩ := hres
  exact ⟨good, k1.trans kpf, hra⟩
end
end Go.Proofs.Ytanpdkllnmeenaa.Am

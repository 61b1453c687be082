/- Calls: the state behind them; and what a function hands back. -/
import Derived.Test.YtanpdkllnmeenaaAmCall
namespace Go.Proofs.Ytanpdkllnmeenaa.Am
open Go Go.RowKit
set_option linter.unusedVariables false
set_option linter.unusedSectionVars false
set_option linter.unusedSimpArgs false
section
variable {P : Program} {C : Ctx} {F F' F1 F'' : Nat → Prop} {w w' : World} {β β' β0 : Bd} {H H' H1 G H0 : Heap}
variable {L : Nat → Prop} {w0 : World} {F0 : Nat → Prop} {n : Nat} {sl : List Slot} {env : List AV} {a : Act} {o : Oper} {v : AV} {base : Nat → Prop} {D : Nat → Prop}
theorem freeze_ok : ∀ {hs : List Nat} {F : Nat → Prop} {H : Heap}, Good L w0 w F0 F β H → freeze H hs = some H' → ∃ F1, Good L w0 w F0 F1 β H' ∧ Keeps F F1 w w β β H H' ∧
    (∀ (h : Nat), h ∈ hs → ∀ (s : Slot) (u : Value) (g : Nat), H[h]? = some s → s.isLive = true → β h = some u → blk u = some g → F1 g) ∧ (∀ h ∈ hs, ∃ l e t xs, H[h]? = some (Slot.row l e t xs))
  | [], F, H, gd, h => by
    simp [freeze] at h
    subst h
    exact ⟨F, gd, ⟨fun _ h => h, fun _ _ => rfl, fun _ _ h => h, fun h s hs => ⟨s, hs, like_refl s⟩⟩, fun h hh => by simp at hh, fun h hh => by simp at hh⟩
  | h :: hs, F, H, gd, hf => by
    simp only [freeze] at hf
    split at hf
    case h_2 => simp at hf
    rename_i l e t xs hsl
    have hH := slotAt_row hsl (by simp)
    obtain ⟨F1, g1, k1, _, b1⟩ := good_freeze gd hH
    obtain ⟨F2, g2, k2, b2, r2⟩ := freeze_ok g1 hf
    refine ⟨F2, g2, k1.trans k2, fun q hq s u g hs' hl hu hg => ?_, fun q hq => ?_⟩
    · by_cases e : q = h
      · subst e
        rw [hH] at hs'
        injection hs' with hs'
        subst hs'
        exact k2.f _ (b1 u g (by simpa [Slot.isLive] using hl) hu hg)
      · rcases List.mem_cons.1 hq with hq | hq
        · exact absurd hq e
        · exact b2 q hq s u g (by rw [set_ne e]; exact hs') hl hu hg
    · by_cases e' : q = h
      · subst e'; exact ⟨_, _, _, _, hH⟩
      · rcases List.mem_cons.1 hq with hq | hq
        · exact absurd hq e'
        · obtain ⟨l, e, t, xs, h1⟩ := r2 q hq
          rw [set_ne e'] at h1
          exact ⟨l, e, t, xs, h1⟩
theorem slot_base {b : Nat → Prop} {s : Slot} {u : Value} (hb : ∀ g, b g → base g) (h : SlotOk b F w β H s u) : SlotOk base F w β H s u := by
  cases s with
  | dead => trivial
  | row l e t xs =>
    cases l with
    | true =>
      obtain ⟨⟨cells, h1, h3⟩, h4⟩ := h
      exact ⟨⟨cells, h1, h3⟩, fun g hg => ⟨hb g (h4 g hg).1, (h4 g hg).2⟩⟩
    | false => exact h
  | box t cs =>
    obtain ⟨g, arr, e, a, b', c⟩ := h
    exact ⟨g, arr, e, a, hb g b', c⟩
  | iter => exact IterR.base hb h
/-- What is made from here on. -/
abbrev Fr (w : World) : Nat → Prop := fun g => w.heap.size ≤ g
theorem fr_bs (gd : Good L w0 w F0 F β H) : ∀ g, Fr w g → Bs L w0 g := fun g hg => .inl (Nat.le_trans gd.below.size hg)
/-- Behind a call. -/
theorem good_call (gd : Good L w0 w F0 F β H) {r : AV} {v : Value} (hb : Below w.heap.size w w') (hF : ∀ g, F'' g → w.heap.size ≤ g ∧ g < w'.heap.size) (hr : RepR (Fr w) (fun g => F g ∨ F'' g) w' r v) :
    ∃ β', Good L w0 w' F0 (fun g => F g ∨ F'' g) β' (H ++ (adoptA r H.length).2) ∧ Keeps F (fun g => F g ∨ F'' g) w w' β β' H (H ++ (adoptA r H.length).2) ∧ RepA (fun g => F g ∨ F'' g) w' β' (H ++ (adoptA r H.length).2) (adoptA r H.length).1 v := by
  obtain ⟨us, hlen, hdis, hall⟩ := hr
  have esl := adoptA_slots r H.length 0
  rw [esl]
  have hat : ∀ (j : Nat) (s : Slot), (adoptA r 0).2[j]? = some s → (H ++ (adoptA r 0).2)[H.length + j]? = some s := fun j s hs => by
    rw [List.getElem?_append_right (by omega)]; simpa using hs
  obtain ⟨hv, hs⟩ := hall H.length (ext β H.length us) (H ++ (adoptA r 0).2) hat fun j u hu => ext_new hu
  have hold : ∀ {q : Nat} {s' : Slot}, H[q]? = some s' → (H ++ (adoptA r 0).2)[q]? = some s' := fun {q s'} hs' => by
    rw [List.getElem?_append_left (List.getElem?_eq_some_iff.1 hs').1]; exact hs'
  have kp : Keeps F (fun g => F g ∨ F'' g) w w' β (ext β H.length us) H (H ++ (adoptA r 0).2) :=
    ⟨fun _ h => .inl h, fun g hg => hb.block g (gd.fsz g hg), fun q u => ext_old fun j _ => free_end gd j, fun q s' hs' => ⟨s', hold hs', like_refl s'⟩⟩
  have hbase : ∀ {j : Nat} {u : Value} {g : Nat}, us[j]? = some u → blk u = some g → w.heap.size ≤ g := fun {j u g} hu hg => by
    have hj := (List.getElem?_eq_some_iff.1 hu).1
    rw [hlen] at hj
    have e := List.getElem?_eq_getElem hj
    have ok := hs j _ u e hu
    obtain ⟨e', t, xs, hq⟩ := adoptA_rows r 0 _ (List.getElem_mem hj)
    rw [hq] at ok
    exact (ok.lt rfl hg).1
  refine ⟨_, ⟨gd.below.trans hb, fun g hg => hg.elim (fun h => Nat.lt_of_lt_of_le (gd.fsz g h) hb.size) fun h => (hF g h).2, fun g hg hlt => hg.elim (fun h => gd.f0 g h hlt) fun h => ?_, fun g hg => .inl (gd.f1 g hg), fun q u hu => ?_, fun q q' s1 s2 u1 u2 g e1 e2 l1 l2 b1 b2 g1 g2 => ?_⟩, kp, hv⟩
  · exact absurd (.inl (Nat.le_trans gd.below.size (hF g h).1)) hlt
  · rcases ext_some hu with ⟨j, rfl, hj⟩ | hu'
    · have hj' := (List.getElem?_eq_some_iff.1 hj).1
      rw [hlen] at hj'
      have e := List.getElem?_eq_getElem hj'
      exact ⟨_, hat _ _ e, slot_base (fr_bs gd) (hs _ _ _ e hj)⟩
    · obtain ⟨s1, e1, e2⟩ := gd.dom q u hu'
      refine ⟨s1, hold e1, e2.keep kp fun hl' g hg' => ⟨hb.block g (e2.lt hl' hg').2.1, fun hn hor => ?_⟩⟩
      rcases hor with h | h
      · exact hn h
      · have := (hF g h).1
        have := (e2.lt hl' hg').2.1
        omega
  · have inv : ∀ {q : Nat} {s' : Slot} {u : Value}, β q = some u → (H ++ (adoptA r 0).2)[q]? = some s' → H[q]? = some s' := fun {q s' u} hb' hs' => by
      obtain ⟨s2, e2, _⟩ := gd.dom _ _ hb'
      have := hold e2
      rw [hs'] at this
      injection this with this
      subst this
      exact e2
    rcases ext_some b1 with ⟨j, rfl, hj⟩ | b1
    · rcases ext_some b2 with ⟨j', rfl, hj'⟩ | b2
      · rw [hdis j j' u1 u2 g hj hj' g1 g2]
      · have h1 := hbase hj g1
        have h2 := ((gd.slot b2 (inv b2 e2)).lt l2 g2).2.1
        omega
    · rcases ext_some b2 with ⟨j', rfl, hj'⟩ | b2
      · have h1 := hbase hj' g2
        have h2 := ((gd.slot b1 (inv b1 e1)).lt l1 g1).2.1
        omega
      · exact gd.sep q q' s1 s2 u1 u2 g (inv b1 e1) (inv b2 e2) l1 l2 b1 b2 g1 g2
structure CRes (w : World) (F : Nat → Prop) (r : AV) (v : Value) (w' : World) (F' : Nat → Prop) : Prop where
  below : Below w.heap.size w w'
  fsz : ∀ g, F' g → g < w'.heap.size
  f0 : ∀ g, F' g → g < w.heap.size → F g
  rep : RepR (Fr w) F' w' r v
def CallOK0 (P : Program) (g : FuncId) (vs : List AV) (r : AV) : Prop :=
  ∀ (w : World) (F : Nat → Prop) (args : Array Value), (∀ b, F b → b < w.heap.size) → All2 (RepA F w (fun _ => none) []) vs args.toList →
    ((callFunc g args).run P w = .ok (.enter g args) w ∧ Calls P g args w fun e w' => ∃ v F', e = .returned v ∧ CRes w F r v w' F') ∨
    ∃ v w' F', (callFunc g args).run P w = .ok (.value v) w' ∧ CRes w F r v w' F'
theorem RepR.to {r : AV} {v' : Value} (h : RepR base F w r v') (hF : ∀ g, F g → F' g) (hn : ∀ g, base g → ¬ F g → ¬ F' g) : RepR base F' w r v' := by
  obtain ⟨us, hlen, hdis, hall⟩ := h
  refine ⟨us, hlen, hdis, fun n β H hH hβ => ?_⟩
  obtain ⟨h1, h2⟩ := hall n β H hH hβ
  have kp : Keeps F F' w w β β H H := ⟨hF, fun _ _ => rfl, fun _ _ h => h, fun h s hs => ⟨s, hs, like_refl s⟩⟩
  refine ⟨h1.mono kp, fun j s u hs hu => ?_⟩
  have ok := h2 j s u hs hu
  exact ok.keep kp fun hl g hg => ⟨rfl, hn g (ok.lt hl hg).1⟩
theorem RepR.flat {r : AV} {v' : Value} (ha : aliasA r = false) (h : RepR base F w r v') (hn : ∀ g, base g → ¬ F g → ¬ F' g) : RepR base F' w r v' := by
  obtain ⟨us, hlen, hdis, hall⟩ := h
  refine ⟨us, hlen, hdis, fun n β H hH hβ => ?_⟩
  obtain ⟨h1, h2⟩ := hall n β H hH hβ
  refine ⟨adoptA_rep ha h1, fun j s u hs hu => ?_⟩
  have ok := h2 j s u hs hu
  obtain ⟨e, t, xs, rfl, hp⟩ := adoptA_plain ha 0 s (List.mem_of_getElem? hs)
  have hlt := fun g hg => ok.lt rfl (g := g) hg
  obtain ⟨⟨cells, a, b⟩, c⟩ := ok
  exact ⟨⟨cells, a, b.mono fun _ _ => RepC.plain hp⟩, fun g hg => ⟨(c g hg).1, hn g (hlt g hg).1 (c g hg).2⟩⟩
/-- What is lent with these handles. -/
inductive Dp (H : Heap) (hs : List Nat) : Nat → Prop where
  | base {h : Nat} : h ∈ hs → Dp H hs h
  | step {p : Nat} {t : Ty} {cs : List CV} {c : CV} {h : Nat} : Dp H hs p → H[p]? = some (.box t cs) → c ∈ cs → h ∈ hsC c → Dp H hs h
theorem dp_deep (H : Heap) (hs : List Nat) : DeepIn H (Dp H hs) := fun h t cs hd hb c hc k hk => .step hd hb hc hk
theorem dp_rows {hs : List Nat} (hr : ∀ h ∈ hs, ∃ l e t xs, H[h]? = some (Slot.row l e t xs)) {h : Nat} (hd : Dp H hs h) : h ∈ hs := by
  induction hd with
  | base h => exact h
  | step _ hb _ _ ih =>
    obtain ⟨l, e, t, xs, h1⟩ := hr _ ih
    rw [h1] at hb
    simp at hb
theorem call_ok (gd : Good L w0 w F0 F β H) {hs : List Nat} {r : AV} {v : Value} (hc : CRes w (FB F β H (Dp H hs)) r v w' F'') (hf : (match aliasA r with | false => some H | true => freeze H hs) = some H1) :
    ∃ F' β', Good L w0 w' F0 F' β' (H1 ++ (adoptA r H1.length).2) ∧ Keeps F F' w w' β β' H (H1 ++ (adoptA r H1.length).2) ∧ RepA F' w' β' (H1 ++ (adoptA r H1.length).2) (adoptA r H1.length).1 v := by
  cases ha : aliasA r with
  | false =>
    rw [ha] at hf
    simp at hf
    subst hf
    have hr := RepR.flat (F' := fun g => F g ∨ (w.heap.size ≤ g ∧ F'' g)) ha hc.rep (fun g hg hn => by
      rintro (h | h)
      · have := gd.fsz g h; omega
      · exact hn h.2)
    obtain ⟨β', g1, k1, r1⟩ := good_call gd hc.below (F'' := fun g => w.heap.size ≤ g ∧ F'' g) (fun g hg => ⟨hg.1, hc.fsz g hg.2⟩) hr
    exact ⟨_, β', g1, k1, r1⟩
  | true =>
    rw [ha] at hf
    simp only [] at hf
    obtain ⟨F1, g1, k1, b1, r1⟩ := freeze_ok gd hf
    have hr := RepR.to (F' := fun g => F1 g ∨ (w.heap.size ≤ g ∧ F'' g)) hc.rep (fun g hg => by
        by_cases hlt : g < w.heap.size
        · left
          rcases hc.f0 g hg hlt with h | ⟨h, u, s, hd, hs', hl, hb, hg'⟩
          · exact k1.f g h
          · exact b1 h (dp_rows r1 hd) s u g hs' hl hb hg'
        · exact .inr ⟨by omega, hg⟩) (fun g hg hn => by
      rintro (h | h)
      · have := g1.fsz g h; omega
      · exact hn h.2)
    obtain ⟨β', g2, k2, r2⟩ := good_call g1 hc.below (F'' := fun g => w.heap.size ≤ g ∧ F'' g) (fun g hg => ⟨hg.1, hc.fsz g hg.2⟩) hr
    exact ⟨_, β', g2, k1.trans k2, r2⟩
/-! ### What a function hands back -/
/-- The rows that are handed back: live ones, each by its handle. -/
def Gives (β : Bd) (H : Heap) (hs : List Nat) (us : List Value) : Prop := All2 (fun h u => β h = some u ∧ ∃ e t xs, H[h]? = some (Slot.row true e t xs)) hs us
/-- A result's cells, told of the handles that it takes over. -/
def Out (base : Nat → Prop) (F : Nat → Prop) (w : World) (us : List Value) (sl : List Slot) (rep : Nat → Bd → Heap → Prop) : Prop :=
  us.length = sl.length ∧ ∀ (n : Nat) (β : Bd) (H : Heap), (∀ (j : Nat) (s : Slot), sl[j]? = some s → H[n + j]? = some s) → (∀ (j : Nat) (u : Value), us[j]? = some u → β (n + j) = some u) →
    rep n β H ∧ ∀ (j : Nat) (s : Slot) (u : Value), sl[j]? = some s → us[j]? = some u → SlotOk base F w β H s u
theorem out_append {us1 us2 : List Value} {sl1 sl2 : List Slot} {rep1 rep2 : Nat → Bd → Heap → Prop} (h1 : Out base F w us1 sl1 rep1) (h2 : Out base F w us2 sl2 rep2) : Out base F w (us1 ++ us2) (sl1 ++ sl2) (fun n β H => rep1 n β H ∧ rep2 (n + sl1.length) β H) := by
  refine ⟨by rw [List.length_append, List.length_append, h1.1, h2.1], fun n β H hH hβ => ?_⟩
  obtain ⟨a1, a2⟩ := h1.2 n β H (fun j s hs => hH j s (by rw [List.getElem?_append_left (List.getElem?_eq_some_iff.1 hs).1]; exact hs)) (fun j u hu => hβ j u (by rw [List.getElem?_append_left (List.getElem?_eq_some_iff.1 hu).1]; exact hu))
  obtain ⟨b1, b2⟩ := h2.2 (n + sl1.length) β H (fun j s hs => by have := hH (sl1.length + j) s (by rw [List.getElem?_append_right (by omega)]; simpa using hs); rwa [← Nat.add_assoc] at this) (fun j u hu => by have := hβ (sl1.length + j) u (by rw [List.getElem?_append_right (by rw [h1.1]; omega), h1.1]; simpa using hu); rwa [← Nat.add_assoc] at this)
  refine ⟨⟨a1, b1⟩, fun j s u hs hu => ?_⟩
  by_cases hj : j < sl1.length
  · rw [List.getElem?_append_left hj] at hs
    rw [List.getElem?_append_left (by rw [h1.1]; exact hj)] at hu
    exact a2 j s u hs hu
  · rw [List.getElem?_append_right (by omega)] at hs
    rw [List.getElem?_append_right (by rw [h1.1]; omega), h1.1] at hu
    exact b2 _ s u hs hu
theorem exp1_ok (gd : Good L w0 w F0 F β H) {used used' : List Nat} {c c' : CV} {u : Value} (r : RepV F w β H c u) (h : exp1 H used c = some (c', used')) :
    ∃ hs us, (∀ h ∈ hs, h ∉ used ∧ h ∈ used') ∧ (∀ h ∈ used, h ∈ used') ∧ hs.Nodup ∧ Gives β H hs us ∧ Out (Bs L w0) F w us (adopt1 c' 0).2 (fun n β2 H2 => RepV F w β2 H2 (adopt1 c' n).1 u) := by
  have same : ∀ {c'' : CV}, c' = c'' → used' = used → (adopt1 c'' 0).2 = [] → (∀ n (β2 : Bd) (H2 : Heap), RepV F w β2 H2 (adopt1 c'' n).1 u) → ∃ hs us, (∀ h ∈ hs, h ∉ used ∧ h ∈ used') ∧ (∀ h ∈ used, h ∈ used') ∧ hs.Nodup ∧ Gives β H hs us ∧ Out (Bs L w0) F w us (adopt1 c' 0).2 (fun n β2 H2 => RepV F w β2 H2 (adopt1 c' n).1 u) := fun {c''} e1 e2 e3 e4 => by
    subst e1 e2
    refine ⟨[], [], fun h hh => by simp at hh, fun h hh => hh, List.nodup_nil, .nil, ?_⟩
    rw [e3]
    exact ⟨rfl, fun n β2 H2 _ _ => ⟨e4 n β2 H2, fun j s u hs => by simp at hs⟩⟩
  cases c with
  | ref k =>
    simp only [exp1] at h
    split at h
    · simp at h
    · rename_i hk
      split at h
      · rename_i e t xs hs
        injection h with h
        injection h with h1 h2
        subst h1 h2
        have hH := slotAt_row hs (by simp)
        simp only [RepV, hH] at r
        refine ⟨[k], [u], fun h hh => ?_, fun h hh => by simp [hh], by simp, .cons ⟨r.1, _, _, _, hH⟩ .nil, rfl, fun n β2 H2 hH2 hβ2 => ⟨?_, fun j s u' hs' hu' => ?_⟩⟩
        · simp at hh; subst hh; exact ⟨by simpa using hk, by simp⟩
        · have a1 := hH2 0 _ rfl
          have a2 := hβ2 0 _ rfl
          rw [Nat.add_zero] at a1 a2
          simp only [adopt1, RepV, a1]
          exact ⟨a2, r.2⟩
        · cases j with
          | zero => simp [adopt1] at hs' hu'; subst hs' hu'; exact gd.slot r.1 hH
          | succ j => simp [adopt1] at hs'
      · rename_i e t xs hs
        injection h with h
        injection h with h1 h2
        have hH := slotAt_row hs (by simp)
        simp only [RepV, hH] at r
        have ok := gd.slot r.1 hH
        exact same h1.symm h2.symm rfl fun n β2 H2 => ok
      · simp at h
  | sub k p m =>
    simp only [exp1] at h
    split at h
    · rename_i e t xs hs
      injection h with h
      injection h with h1 h2
      have hH := slotAt_row hs (by simp)
      simp only [RepV, hH] at r
      refine same h1.symm h2.symm rfl fun n β2 H2 => ?_
      exact sub_rep r fun e => gd.slot e hH
    · simp at h
  | int k n => simp [exp1] at h; exact same h.1.symm h.2.symm rfl fun _ _ _ => r
  | bool b => simp [exp1] at h; exact same h.1.symm h.2.symm rfl fun _ _ _ => r
  | str b => simp [exp1] at h; exact same h.1.symm h.2.symm rfl fun _ _ _ => r
  | vsl t xs => simp [exp1] at h; exact same h.1.symm h.2.symm rfl fun _ _ _ => r
  | fptr t x off => simp [exp1] at h; exact same h.1.symm h.2.symm rfl fun _ _ _ => r
  | undef => simp [exp1] at h
  | nils => simp [exp1] at h
  | own => simp [exp1] at h
  | ptr => simp [exp1] at h
  | fn => simp [exp1] at h
theorem gives_append {hs1 hs2 : List Nat} {us1 us2 : List Value} (h1 : Gives β H hs1 us1) (h2 : Gives β H hs2 us2) : Gives β H (hs1 ++ hs2) (us1 ++ us2) := All2.append h1 h2
theorem used_step {used u1 u2 : List Nat} {hs1 hs2 : List Nat} (a : ∀ h ∈ hs1, h ∉ used ∧ h ∈ u1) (b : ∀ h ∈ used, h ∈ u1) (c : ∀ h ∈ hs2, h ∉ u1 ∧ h ∈ u2) (d : ∀ h ∈ u1, h ∈ u2) (n1 : hs1.Nodup) (n2 : hs2.Nodup) :
    (∀ h ∈ hs1 ++ hs2, h ∉ used ∧ h ∈ u2) ∧ (∀ h ∈ used, h ∈ u2) ∧ (hs1 ++ hs2).Nodup := by
  refine ⟨fun h hh => ?_, fun h hh => d h (b h hh), List.nodup_append.2 ⟨n1, n2, fun x hx y hy e => ?_⟩⟩
  · rcases List.mem_append.1 hh with hh | hh
    · exact ⟨(a h hh).1, d h (a h hh).2⟩
    · exact ⟨fun hu => (c h hh).1 (b h hu), (c h hh).2⟩
  · subst e
    exact (c x hy).1 (a x hx).2
theorem expL_ok (gd : Good L w0 w F0 F β H) : ∀ {cs cs' : List CV} {used used' : List Nat} {vs : List Value}, All2 (RepV F w β H) cs vs → expL H used cs = some (cs', used') →
    ∃ hs us, (∀ h ∈ hs, h ∉ used ∧ h ∈ used') ∧ (∀ h ∈ used, h ∈ used') ∧ hs.Nodup ∧ Gives β H hs us ∧ Out (Bs L w0) F w us (adoptL cs' 0).2 (fun n β2 H2 => All2 (RepV F w β2 H2) (adoptL cs' n).1 vs)
  | [], cs', used, used', vs, r, h => by
    simp [expL] at h
    obtain ⟨rfl, rfl⟩ := h
    cases r
    exact ⟨[], [], fun h hh => by simp at hh, fun h hh => hh, List.nodup_nil, .nil, rfl, fun n β2 H2 _ _ => ⟨.nil, fun j s u hs => by simp [adoptL] at hs⟩⟩
  | c :: l, cs', used, used', vs, r, h => by
    simp only [expL, Option.bind_eq_some_iff, Option.map_eq_some_iff] at h
    obtain ⟨p, h1, q, h2, h3⟩ := h
    simp at h3
    obtain ⟨rfl, rfl⟩ := h3
    cases r with
    | cons r t =>
      obtain ⟨hs1, us1, a1, b1, n1, g1, o1⟩ := exp1_ok (c' := p.1) (used' := p.2) gd r h1
      obtain ⟨hs2, us2, a2, b2, n2, g2, o2⟩ := expL_ok gd (cs' := q.1) (used' := q.2) t h2
      obtain ⟨x1, x2, x3⟩ := used_step a1 b1 a2 b2 n1 n2
      refine ⟨hs1 ++ hs2, us1 ++ us2, x1, x2, x3, gives_append g1 g2, ?_⟩
      have o := out_append o1 o2
      have e : (adoptL (p.1 :: q.1) 0).2 = (adopt1 p.1 0).2 ++ (adoptL q.1 0).2 := by simp only [adoptL]; rw [adoptL_slots q.1 _ 0]
      rw [e]
      refine ⟨o.1, fun n β2 H2 hH hβ => ?_⟩
      obtain ⟨⟨y1, y2⟩, y3⟩ := o.2 n β2 H2 hH hβ
      refine ⟨?_, y3⟩
      simp only [adoptL]
      rw [adopt1_slots p.1 n 0]
      exact .cons y1 y2
/-- A result's part. -/
def RepU (F : Nat → Prop) (w : World) (β : Bd) (H : Heap) (u : Bool × List CV) (v : Value) : Prop :=
  match u with
  | (true, cs) => ∃ ws, v = .agg ws ∧ All2 (RepV F w β H) cs ws.toList
  | (false, cs) => ∃ c, cs = [c] ∧ RepV F w β H c v
theorem expA_ok (gd : Good L w0 w F0 F β H) {used used' : List Nat} {c : AV} {c' : Bool × List CV} {u : Value} (r : RepA F w β H c u) (h : expA H used c = some (c', used')) :
    ∃ hs us, (∀ h ∈ hs, h ∉ used ∧ h ∈ used') ∧ (∀ h ∈ used, h ∈ used') ∧ hs.Nodup ∧ Gives β H hs us ∧ Out (Bs L w0) F w us (adoptL c'.2 0).2 (fun n β2 H2 => RepU F w β2 H2 (c'.1, (adoptL c'.2 n).1) u) := by
  cases c with
  | undef => simp [expA] at h
  | tup => simp [expA] at h
  | one c =>
    simp only [expA, Option.map_eq_some_iff] at h
    obtain ⟨p, h1, h2⟩ := h
    simp at h2
    obtain ⟨rfl, rfl⟩ := h2
    obtain ⟨hs1, us1, a1, b1, n1, g1, o1⟩ := exp1_ok (c' := p.1) (used' := p.2) gd r h1
    refine ⟨hs1, us1, a1, b1, n1, g1, ?_⟩
    have e : (adoptL [p.1] 0).2 = (adopt1 p.1 0).2 := by simp [adoptL]
    rw [e]
    refine ⟨o1.1, fun n β2 H2 hH hβ => ?_⟩
    obtain ⟨y1, y3⟩ := o1.2 n β2 H2 hH hβ
    exact ⟨⟨_, by simp [adoptL], y1⟩, y3⟩
  | agg cs =>
    simp only [expA, Option.map_eq_some_iff] at h
    obtain ⟨p, h1, h2⟩ := h
    simp at h2
    obtain ⟨rfl, rfl⟩ := h2
    obtain ⟨vs, hv, r⟩ := r
    obtain ⟨hs1, us1, a1, b1, n1, g1, o1⟩ := expL_ok (cs' := p.1) (used' := p.2) gd r h1
    refine ⟨hs1, us1, a1, b1, n1, g1, o1.1, fun n β2 H2 hH hβ => ?_⟩
    obtain ⟨y1, y3⟩ := o1.2 n β2 H2 hH hβ
    exact ⟨⟨vs, hv, y1⟩, y3⟩
theorem expT_ok (gd : Good L w0 w F0 F β H) : ∀ {cs : List AV} {cs' : List (Bool × List CV)} {used : List Nat} {vs : List Value}, All2 (RepA F w β H) cs vs → expT H used cs = some cs' →
    ∃ hs us, (∀ h ∈ hs, h ∉ used) ∧ hs.Nodup ∧ Gives β H hs us ∧ Out (Bs L w0) F w us (adoptT cs' 0).2 (fun n β2 H2 => All2 (RepU F w β2 H2) (adoptT cs' n).1 vs)
  | [], cs', used, vs, r, h => by
    simp [expT] at h
    subst h
    cases r
    exact ⟨[], [], fun h hh => by simp at hh, List.nodup_nil, .nil, rfl, fun n β2 H2 _ _ => ⟨.nil, fun j s u hs => by simp [adoptT] at hs⟩⟩
  | c :: l, cs', used, vs, r, h => by
    simp only [expT, Option.bind_eq_some_iff, Option.map_eq_some_iff] at h
    obtain ⟨p, h1, q, h2, h3⟩ := h
    subst h3
    cases r with
    | cons r t =>
      obtain ⟨hs1, us1, a1, b1, n1, g1, o1⟩ := expA_ok (c' := p.1) (used' := p.2) gd r h1
      obtain ⟨hs2, us2, a2, n2, g2, o2⟩ := expT_ok gd (cs' := q) t h2
      refine ⟨hs1 ++ hs2, us1 ++ us2, fun h hh => ?_, List.nodup_append.2 ⟨n1, n2, fun x hx y hy e => ?_⟩, gives_append g1 g2, ?_⟩
      · rcases List.mem_append.1 hh with hh | hh
        · exact (a1 h hh).1
        · exact fun hu => a2 h hh (b1 h hu)
      · subst e; exact a2 x hy (a1 x hx).2
      · have o := out_append o1 o2
        have e : (adoptT (p.1 :: q) 0).2 = (adoptL p.1.2 0).2 ++ (adoptT q 0).2 := by simp only [adoptT]; rw [adoptT_slots q _ 0]
        rw [e]
        refine ⟨o.1, fun n β2 H2 hH hβ => ?_⟩
        obtain ⟨⟨y1, y2⟩, y3⟩ := o.2 n β2 H2 hH hβ
        refine ⟨?_, y3⟩
        simp only [adoptT]
        rw [adoptL_slots p.1.2 n 0]
        exact .cons y1 y2
theorem gives_dis (gd : Good L w0 w F0 F β H) {hs : List Nat} {us : List Value} (hn : hs.Nodup) (g : Gives β H hs us) : ∀ (j j' : Nat) (u u' : Value) (b : Nat), us[j]? = some u → us[j']? = some u' → blk u = some b → blk u' = some b → j = j' := by
  intro j j' u u' b h1 h2 b1 b2
  obtain ⟨h, e1, a1, e, t, xs, c1⟩ := All2.getR g h1
  obtain ⟨h', e2, a2, e', t', xs', c2⟩ := All2.getR g h2
  have := gd.sep h h' _ _ u u' b c1 c2 rfl rfl a1 a2 b1 b2
  subst this
  exact (List.getElem?_inj (List.getElem?_eq_some_iff.1 e1).1 hn).1 (e1.trans e2.symm)
end
end Go.Proofs.Ytanpdkllnmeenaa.Am

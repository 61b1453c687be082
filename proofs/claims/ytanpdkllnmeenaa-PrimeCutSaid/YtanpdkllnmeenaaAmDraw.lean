/- Regions that draw their order: quiet operations come in any order. -/
import Derived.Test.YtanpdkllnmeenaaAmSeq
namespace Go.Proofs.Ytanpdkllnmeenaa.Am
open Go Go.RowKit
set_option linter.unusedVariables false
set_option linter.unusedSectionVars false
set_option linter.unusedSimpArgs false
section
variable {P : Program} {C : Ctx} {F F' F1 F'' : Nat → Prop} {w w' : World} {β β' β0 : Bd} {H H' H1 G H0 : Heap}
variable {L : Nat → Prop} {X : List Value} {w0 : World} {F0 : Nat → Prop} {n : Nat} {sl : List Slot} {env : List AV} {a : Act} {o : Oper} {v : AV} {base : Nat → Prop} {D : Nat → Prop} {st st' : St}
/-! ### More heap says no less -/
def Sub (H G : Heap) : Prop := ∀ (h : Nat) (s : Slot), H[h]? = some s → s ≠ .dead → G[h]? = some s
theorem Sub.at_ (p : Sub H G) {h : Nat} {s : Slot} (e : slotAt H h = s) (hs : s ≠ .dead) : slotAt G h = s := slotAt_some (p _ _ (slotAt_row e hs) hs)
theorem pure1_sub (p : Sub H G) {c c' : CV} (h : pure1 H c = some c') : pure1 G c = some c' := by
  cases c <;> simp only [pure1] at h ⊢ <;> try exact h
  · split at h
    · rename_i hs; rw [p.at_ hs (by simp)]; exact h
    · simp at h
  · split at h
    · rename_i hs; rw [p.at_ hs (by simp)]; exact h
    · simp at h
theorem mapM_sub {α γ : Type} {f g : α → Option γ} (hf : ∀ x y, f x = some y → g x = some y) : ∀ {l : List α} {m : List γ}, l.mapM f = some m → l.mapM g = some m
  | [], m, h => by simpa using h
  | x :: l, m, h => by
    simp only [List.mapM_cons, Option.bind_eq_bind, Option.bind_eq_some_iff] at h ⊢
    obtain ⟨q, h1, r, h2, h3⟩ := h
    exact ⟨q, hf _ _ h1, r, mapM_sub hf h2, h3⟩
theorem pureP_sub (p : Sub H G) {c c' : PV} (h : pureP H c = some c') : pureP G c = some c' := by
  cases c <;> simp only [pureP] at h ⊢ <;> try exact h
  split at h
  · rename_i hs
    rw [p.at_ hs (by simp)]
    simp only [Option.bind_eq_some_iff] at h ⊢
    obtain ⟨cs', h1, r⟩ := h
    exact ⟨cs', mapM_sub (fun _ _ => pure1_sub p) h1, r⟩
  · simp at h
theorem pureC_sub (p : Sub H G) {c c' : CV} (h : pureC H c = some c') : pureC G c = some c' := by
  cases c with
  | ptr k i off =>
    simp only [pureC] at h ⊢
    split at h
    · rename_i hs
      rw [p.at_ hs (by simp)]
      simp only [Option.bind_eq_some_iff] at h ⊢
      obtain ⟨cs', h1, r⟩ := h
      exact ⟨cs', mapM_sub (fun _ _ => pure1_sub p) h1, r⟩
    · simp at h
  | fn f x y =>
    simp only [pureC, Option.bind_eq_some_iff] at h ⊢
    obtain ⟨a', h1, b', h2, r⟩ := h
    exact ⟨a', mapM_sub (fun _ _ => pureP_sub p) h1, b', mapM_sub (fun _ _ => pureP_sub p) h2, r⟩
  | _ =>
    simp only [pureC] at h ⊢
    exact pure1_sub p h
theorem pureA_sub (p : Sub H G) {c c' : AV} (h : pureA H c = some c') : pureA G c = some c' := by
  cases c <;> simp only [pureA] at h ⊢ <;> try exact h
  · simp only [Option.map_eq_some_iff] at h ⊢
    obtain ⟨q, h1, r⟩ := h
    exact ⟨q, pureC_sub p h1, r⟩
  · simp only [Option.map_eq_some_iff] at h ⊢
    obtain ⟨q, h1, r⟩ := h
    exact ⟨q, mapM_sub (fun _ _ => pure1_sub p) h1, r⟩
theorem mapA_sub {α γ : Type} {f g : α → Option γ} (hf : ∀ x y, f x = some y → g x = some y) : ∀ {l : List α} {m : List γ}, mapA f l = some m → mapA g l = some m
  | [], m, h => h
  | x :: l, m, h => by
    simp only [mapA, Option.bind_eq_some_iff, Option.map_eq_some_iff] at h ⊢
    obtain ⟨q, h1, r, h2, h3⟩ := h
    exact ⟨q, hf _ _ h1, r, mapA_sub hf h2, h3⟩
theorem argsOf_sub (p : Sub H G) {c : Call} {pa pb : List PV} {r : List AV × List Nat} (h : argsOf C env H c pa pb = some r) : argsOf C env G c pa pb = some r := by
  simp only [argsOf, Option.bind_eq_some_iff, Option.map_eq_some_iff] at h ⊢
  obtain ⟨us, h1, a', h2, b', h3, ws, h4, h5⟩ := h
  exact ⟨us, h1, a', h2, b', h3, ws, mapA_sub (fun _ _ => pureA_sub p) h4, h5⟩
/-- Behind a call whose rows have their places. -/
theorem good_callG (gd : Good L w0 w F0 F β G) {r : AV} {v : Value} {n : Nat} (hfree : ∀ j, j < (adoptA r n).2.length → β (n + j) = none) (hnew : ∀ (j : Nat) (s : Slot), (adoptA r n).2[j]? = some s → G[n + j]? = some s)
    (hb : Below w.heap.size w w') (hF : ∀ g, F'' g → w.heap.size ≤ g ∧ g < w'.heap.size) (hr : RepR (Fr w) (fun g => F g ∨ F'' g) w' r v) :
    ∃ β', Good L w0 w' F0 (fun g => F g ∨ F'' g) β' G ∧ Keeps F (fun g => F g ∨ F'' g) w w' β β' G G ∧ RepA (fun g => F g ∨ F'' g) w' β' G (adoptA r n).1 v ∧ (∀ h, β' h ≠ none → β h ≠ none ∨ (n ≤ h ∧ h < n + (adoptA r n).2.length)) := by
  obtain ⟨us, hlen, hdis, hall⟩ := hr
  have esl := adoptA_slots r n 0
  rw [esl] at hfree hnew ⊢
  obtain ⟨hv, hs⟩ := hall n (ext β n us) G hnew fun j u hu => ext_new hu
  have hext : ∀ q u, β q = some u → ext β n us q = some u := fun q u => ext_old (by rw [hlen]; exact hfree)
  have kp : Keeps F (fun g => F g ∨ F'' g) w w' β (ext β n us) G G :=
    ⟨fun _ h => .inl h, fun g hg => hb.block g (gd.fsz g hg), hext, fun q s' hs' => ⟨s', hs', like_refl s'⟩⟩
  have hbase : ∀ {j : Nat} {u : Value} {g : Nat}, us[j]? = some u → blk u = some g → w.heap.size ≤ g := fun {j u g} hu hg => by
    have hj := (List.getElem?_eq_some_iff.1 hu).1
    rw [hlen] at hj
    have e := List.getElem?_eq_getElem hj
    have ok := hs j _ u e hu
    obtain ⟨e', t, xs, hq⟩ := adoptA_rows r 0 _ (List.getElem_mem hj)
    rw [hq] at ok
    exact (ok.lt rfl hg).1
  refine ⟨_, ⟨gd.below.trans hb, fun g hg => hg.elim (fun h => Nat.lt_of_lt_of_le (gd.fsz g h) hb.size) fun h => (hF g h).2, fun g hg hlt => hg.elim (fun h => gd.f0 g h hlt) fun h => ?_, fun g hg => .inl (gd.f1 g hg), fun q u hu => ?_, fun q q' s1 s2 u1 u2 g e1 e2 l1 l2 b1 b2 g1 g2 => ?_⟩, kp, hv, ?_⟩
  · exact absurd (.inl (Nat.le_trans gd.below.size (hF g h).1)) hlt
  · rcases ext_some hu with ⟨j, rfl, hj⟩ | hu'
    · have hj' := (List.getElem?_eq_some_iff.1 hj).1
      rw [hlen] at hj'
      have e := List.getElem?_eq_getElem hj'
      exact ⟨_, hnew _ _ e, slot_base (fr_bs gd) (hs _ _ _ e hj)⟩
    · obtain ⟨s1, e1, e2⟩ := gd.dom q u hu'
      refine ⟨s1, e1, e2.keep kp fun hl' g hg' => ⟨hb.block g (e2.lt hl' hg').2.1, fun hn hor => ?_⟩⟩
      rcases hor with h | h
      · exact hn h
      · have := (hF g h).1
        have := (e2.lt hl' hg').2.1
        omega
  · rcases ext_some b1 with ⟨j, rfl, hj⟩ | b1
    · rcases ext_some b2 with ⟨j', rfl, hj'⟩ | b2
      · rw [hdis j j' u1 u2 g hj hj' g1 g2]
      · have h1 := hbase hj g1
        have h2 := ((gd.slot b2 e2).lt l2 g2).2.1
        omega
    · rcases ext_some b2 with ⟨j', rfl, hj'⟩ | b2
      · have h1 := hbase hj' g2
        have h2 := ((gd.slot b1 e1).lt l1 g1).2.1
        omega
      · exact gd.sep q q' s1 s2 u1 u2 g e1 e2 l1 l2 b1 b2 g1 g2
  · intro h hh
    cases hb' : ext β n us h with
    | none => exact absurd hb' hh
    | some u =>
      rcases ext_some hb' with ⟨j, rfl, hj⟩ | hb'
      · right
        have := (List.getElem?_eq_some_iff.1 hj).1
        omega
      · left; rw [hb']; simp
/-- What a quiet operation yields. -/
def QS (P : Program) (C : Ctx) (o : Oper) (env : List AV) (H : Heap) (v : AV) (sl : List Slot) : Prop :=
  opQ C env H H.length o = some (true, v, sl) ∨
  (∃ c x y t, o.op = .pick c x y ∧ oprC env c = some (.bool t) ∧ opr env (if t then x else y) = some v ∧ sl = []) ∨
  (∃ c f g pa pb vs hs r, o.op = .call c ∧ c.callee = .value f ∧ callee env f = some (g, pa, pb) ∧ argsOf C env H c pa pb = some (vs, hs) ∧ CallOK P g ⟨vs, [], []⟩ r ∧ (aliasA r = true → hs = []) ∧ v = (adoptA r H.length).1 ∧ sl = (adoptA r H.length).2)
theorem qs_ok (hq : QS P C o env H v sl) (cx : CtxOk P C) (gd : Good L w0 w F0 F β G) (hpre : Sub H G) (hfree : ∀ j, j < sl.length → β (H.length + j) = none) (hnew : ∀ (j : Nat) (s : Slot), sl[j]? = some s → G[H.length + j]? = some s)
    (hE : ∀ x ∈ o.op.operands, OpOk F w β G env a x) : ∀ (next : Act → World → Prop) (Q : Exit → Act → World → Prop), (∀ v' w' F' β', Good L w0 w' F0 F' β' G → Keeps F F' w w' β β' G G → RepA F' w' β' G v v' → (∀ h, β' h ≠ none → β h ≠ none ∨ (H.length ≤ h ∧ h < H.length + sl.length)) → next (a.put o.dst v') w') → o.wp P a w next Q := by
  intro next Q hn
  rcases hq with hq | ⟨c, x, y, t, ho, h1, h2, rfl⟩ | ⟨c, f, g, pa, pb, vs, hs, r, ho, hcal, h1, h2, hok, hal, rfl, rfl⟩
  · have pre : Pre L w0 w F0 F β H G H.length sl := ⟨gd, hpre, hnew⟩
    have q := opQ_ok pre hE cx hq
    obtain ⟨v', w', β', hr, g2, k2, r, _, hd⟩ := good_quiet pre hfree q
    unfold Oper.wp
    rw [hr]
    exact hn v' w' F β' g2 k2 r hd
  · have hcv : a.eval c = .bool t := (hE c (by rw [ho]; simp [Op.operands])).cell h1
    have r := hE _ (by rw [ho]; cases t <;> simp [Op.operands]) _ h2
    have : (execOp a.eval o).run P w = .ok (.value (a.eval (if t then x else y))) w := by
      simp only [execOp, ho, hcv, asBool]
      cases t <;> simp
    unfold Oper.wp
    rw [this]
    exact hn _ w F β gd ⟨fun _ h => h, fun _ _ => rfl, fun _ _ h => h, fun h s hs => ⟨s, hs, like_refl s⟩⟩ r fun h hh => .inl hh
  · have hfo : OpOk F w β G env a f := hE f (by rw [ho]; simp [Op.operands, Call.operands, hcal])
    have hfv : ∃ va vb, a.eval f = .func (.func g) va vb ∧ All2 (RepP F w β G) pa va.toList ∧ All2 (RepP F w β G) pb vb.toList := by
      simp only [callee, Option.bind_eq_some_iff] at h1
      obtain ⟨c, h1, h2⟩ := h1
      have r := hfo.cell h1
      split at h2
      · simp at h2
        obtain ⟨rfl, rfl, rfl⟩ := h2
        exact r
      · simp at h2
    obtain ⟨va, vb, hfv, ra, rb⟩ := hfv
    have hargs := argsOf_ok gd (fun x hx => hE x (by rw [ho]; simp only [Op.operands, Call.operands, hcal]; exact Array.mem_append.2 (.inr hx))) ra rb (argsOf_sub hpre h2)
    have hex : (execOp a.eval o).run P w = (callFunc g (va ++ c.args.map a.eval ++ vb)).run P w := by
      simp [execOp, ho, resolve, hcal, hfv, Deferred.ofValue, invoke]
    have hfb : ∀ b, FB F β G (Dp G hs) b → b < w.heap.size := by
      rintro b (h | ⟨h, u, s, _, hs', hl, hb, hg⟩)
      · exact gd.fsz b h
      · exact ((gd.slot hb hs').lt hl hg).2.1
    have fin : ∀ {v' : Value} {w' : World} {F'' : Nat → Prop}, CRes w (FB F β G (Dp G hs)) r v' w' F'' → ∃ F' β', Good L w0 w' F0 F' β' G ∧ Keeps F F' w w' β β' G G ∧ RepA F' w' β' G (adoptA r H.length).1 v' ∧ (∀ h, β' h ≠ none → β h ≠ none ∨ (H.length ≤ h ∧ h < H.length + (adoptA r H.length).2.length)) := fun {v' w' F''} hres => by
      have hr : RepR (Fr w) (fun g => F g ∨ (w.heap.size ≤ g ∧ F'' g)) w' r v' := by
        have hneg : ∀ g, w.heap.size ≤ g → ¬ F'' g → ¬ (F g ∨ (w.heap.size ≤ g ∧ F'' g)) := fun g hg hn => by
          rintro (h | h)
          · have := gd.fsz g h; omega
          · exact hn h.2
        cases ha : aliasA r with
        | false => exact RepR.flat ha hres.rep hneg
        | true =>
          refine RepR.to hres.rep (fun g hg => ?_) hneg
          by_cases hlt : g < w.heap.size
          · left
            rcases hres.f0 g hg hlt with h | ⟨h, u, s, hd, _⟩
            · exact h
            · have he := hal ha
              subst he
              exact absurd (dp_rows (H := G) (hs := []) (fun h hh => by simp at hh) hd) (by simp)
          · exact .inr ⟨by omega, hg⟩
      obtain ⟨β', g2, k2, r2, d2⟩ := good_callG gd hfree hnew hres.below (F'' := fun g => w.heap.size ≤ g ∧ F'' g) (fun g hg => ⟨hg.1, hres.fsz g hg.2⟩) hr
      exact ⟨_, β', g2, k2, r2, d2⟩
    unfold Oper.wp
    rw [hex]
    rcases hok.to0 w _ _ hfb hargs with ⟨he, hcalls⟩ | ⟨v', w', F'', he, hres⟩
    · rw [he]
      refine hcalls.mono ?_
      rintro e w' ⟨v', F'', rfl, hres⟩
      obtain ⟨F', β', g2, k2, r2, d2⟩ := fin hres
      exact hn v' w' F' β' g2 k2 r2 d2
    · rw [he]
      obtain ⟨F', β', g2, k2, r2, d2⟩ := fin hres
      exact hn v' w' F' β' g2 k2 r2 d2
end
end Go.Proofs.Ytanpdkllnmeenaa.Am

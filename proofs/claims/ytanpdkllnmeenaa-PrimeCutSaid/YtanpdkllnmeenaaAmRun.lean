/- Operations, one behind the other. -/
import Derived.Test.YtanpdkllnmeenaaAmLend
import Derived.Lib.SliceRun
import Derived.Maps.RangeRun
namespace Go.Proofs.Ytanpdkllnmeenaa.Am
open Go Go.RowKit
set_option linter.unusedVariables false
set_option linter.unusedSectionVars false
set_option linter.unusedSimpArgs false
def Sim (L : Nat → Prop) (w0 : World) (F0 : Nat → Prop) (X : List Value) (st : St) (a : Act) (w : World) : Prop :=
  ∃ F β, Good L w0 w F0 F β st.heap ∧ (a.defers = [] ∧ All2 (RepV F w β st.heap) st.roots X) ∧ a.tmps.size = st.env.length ∧ ∀ t, RepA F w β st.heap (envAt st.env t) (a.tmps.getD t undef)
section
variable {P : Program} {C : Ctx} {F F' F1 F'' : Nat → Prop} {w w' : World} {β β' β0 : Bd} {H H' H1 G H0 : Heap}
variable {L : Nat → Prop} {w0 : World} {F0 : Nat → Prop} {n : Nat} {sl : List Slot} {env : List AV} {a : Act} {o : Oper} {v : AV} {base : Nat → Prop} {D : Nat → Prop} {st st' : St}
theorem put_at {env : List AV} {d : Option Tmp} {v : AV} {u : Value} (hsz : a.tmps.size = env.length) (hr : RepA F w β H v u) (h : ∀ t, RepA F w β H (envAt env t) (a.tmps.getD t undef)) : (∀ t, RepA F w β H (envAt (put env d v) t) ((a.put d u).tmps.getD t undef)) ∧ (a.put d u).tmps.size = (put env d v).length := by
  cases d with
  | none => exact ⟨h, hsz⟩
  | some d =>
    refine ⟨fun t => ?_, by simp [Act.put, put, hsz]⟩
    simp only [envAt, put, Act.put]
    rw [List.getD_eq_getElem?_getD, List.getElem?_set]
    by_cases hd : d = t
    · subst hd
      by_cases hlt : d < env.length
      · simp only [if_true, hlt, Option.getD_some]
        have : (a.tmps.setIfInBounds d u).getD d undef = u := by simp [hsz, hlt]
        rw [this]; exact hr
      · simp only [if_true, hlt, if_false, Option.getD_none]
        trivial
    · rw [if_neg hd]
      have : (a.tmps.setIfInBounds d u).getD t undef = a.tmps.getD t undef := by simp [Array.getElem?_setIfInBounds_ne hd]
      rw [this]
      have := h t
      rwa [envAt, List.getD_eq_getElem?_getD] at this
/-- A bool that is known. -/
theorem env_bool {env : List AV} {d : Nat} {b : Bool} (hr : RepA F w β H (envAt env d) (a.tmps.getD d undef)) (he : envAt env d = .one (.bool b)) : a.tmps[d]? = some (.bool b) := by
  rw [he] at hr
  have h : a.tmps.getD d undef = .bool b := hr
  cases hd : a.tmps[d]? with
  | none => rw [Array.getD_eq_getD_getElem?, hd] at h; simp [undef] at h
  | some x => rw [Array.getD_eq_getD_getElem?, hd] at h; simp at h; rw [h]
theorem env_set {env : List AV} {d : Nat} {b : Bool} (hsz : a.tmps.size = env.length) (h : ∀ t, RepA F w β H (envAt env t) (a.tmps.getD t undef)) (he : envAt env d = .one (.bool b)) : (∀ t, RepA F w β H (envAt (env.set d (.one (.bool b))) t) (a.tmps.getD t undef)) ∧ a.tmps.size = (env.set d (.one (.bool b))).length := by
  refine ⟨fun t => ?_, by simpa using hsz⟩
  have h0 := h t
  simp only [envAt] at h0 he ⊢
  rw [List.getD_eq_getElem?_getD, List.getElem?_set]
  by_cases hd : d = t
  · subst hd
    by_cases hlt : d < env.length
    · simp only [if_true, hlt, Option.getD_some]
      rw [he] at h0; exact h0
    · simp only [if_true, hlt, if_false, Option.getD_none]; trivial
  · rw [if_neg hd, ← List.getD_eq_getElem?_getD]; exact h0
/-- What is known of the functions that are called. -/
def CallS {R : Type} (P : Program) (call : CallK R) : Prop := ∀ g (vs : Pack) (K : AV → Option R) out, call g vs K = some out → ∃ r, K r = some out ∧ CallOK P g vs r
theorem sim_ops (gd : Good L w0 w F0 F β H) (h : ∀ t, RepA F w β H (envAt env t) (a.tmps.getD t undef)) (x : Operand) : OpOk F w β H env a x := opr_ok x fun t _ => h t
theorem pvcv_ok {q : PV} {c : CV} {u : Value} (h : q.cv = some c) (r : RepP F w β H q u) : RepV F w β H c u := by
  cases q with
  | val t x =>
    simp only [PV.cv] at h
    split at h
    · rename_i c' hc
      injection h with h
      subst h
      have := rep_flat (β := β) (H := H) (show RepC F w t x [u] from r)
      rw [hc] at this
      cases this with
      | cons r _ => exact r
    · simp at h
  | fptr t x off => simp [PV.cv] at h; subst h; exact r
  | ptr k i off => simp [PV.cv] at h; subst h; exact r
  | agg t x => simp [PV.cv] at h
theorem pvav_ok {q : PV} {c : AV} {u : Value} (h : q.av = some c) (r : RepP F w β H q u) : RepA F w β H c u := by
  cases q with
  | agg t x =>
    simp [PV.av] at h
    subst h
    obtain ⟨vs, e, r⟩ := r
    exact ⟨vs, e, rep_flat (β := β) (H := H) r⟩
  | val t x => simp only [PV.av, Option.map_eq_some_iff] at h; obtain ⟨c, h, rfl⟩ := h; exact pvcv_ok h r
  | fptr t x off => simp only [PV.av, Option.map_eq_some_iff] at h; obtain ⟨c, h, rfl⟩ := h; exact pvcv_ok h r
  | ptr t x off => simp only [PV.av, Option.map_eq_some_iff] at h; obtain ⟨c, h, rfl⟩ := h; exact pvcv_ok h r
theorem mapA_ok {α γ δ : Type} {f : α → Option γ} {R : α → δ → Prop} {S : γ → δ → Prop} : ∀ {l : List α} {m : List γ} {us : List δ}, (∀ x ∈ l, ∀ y u, R x u → f x = some y → S y u) → All2 R l us → mapA f l = some m → All2 S m us
  | [], m, _, _, .nil, h => by simp [mapA] at h; subst h; exact .nil
  | x :: l, m, _, hf, .cons r t, h => by
    simp only [mapA, Option.bind_eq_some_iff, Option.map_eq_some_iff] at h
    obtain ⟨y, h1, q, h2, rfl⟩ := h
    exact .cons (hf x (by simp) _ _ r h1) (mapA_ok (fun x hx => hf x (by simp [hx])) t h2)
theorem nilC_ok : ∀ {T : Ty} {cs : List CV} {vs : List Value}, All2 (RepV F w β H) cs vs → ∃ v1 v2, vs = v1 ++ v2 ∧ All2 (RepV F w β H) (nilC T cs).1 v1 ∧ All2 (RepV F w β H) (nilC T cs).2 v2
  | .sl t, _, _, .nil => ⟨[], [], rfl, .nil, .nil⟩
  | .sl t, _, _, @All2.cons _ _ _ c v l m hr ht => by
    refine ⟨[v], m, rfl, ?_⟩
    cases c <;> simp only [nilC] <;> first
      | exact ⟨.cons hr .nil, ht⟩
      | (cases hm : t.isMp with
         | true => exact ⟨.cons (by rw [show v = _ from hr]; rfl) .nil, ht⟩
         | false =>
           refine ⟨.cons ?_ .nil, ht⟩
           rw [show v = _ from hr]
           exact ⟨none, 0, by rw [hdr_sl hm]; rfl, Nat.le_refl _, .inl ⟨rfl, fun _ => rfl⟩⟩)
  | .pair a b, cs, vs, hr => by
    simp only [nilC]
    obtain ⟨v1, v2, rfl, r1, r2⟩ := nilC_ok (T := a) hr
    obtain ⟨v3, v4, rfl, r3, r4⟩ := nilC_ok (T := b) r2
    exact ⟨v1 ++ v3, v4, by simp, r1.append r3, r4⟩
  | .unit, cs, vs, hr => ⟨[], vs, rfl, .nil, hr⟩
  | .int _, _, _, .nil => ⟨[], [], rfl, .nil, .nil⟩
  | .int _, _, _, .cons hr ht => ⟨[_], _, rfl, .cons hr .nil, ht⟩
  | .bool, _, _, .nil => ⟨[], [], rfl, .nil, .nil⟩
  | .bool, _, _, .cons hr ht => ⟨[_], _, rfl, .cons hr .nil, ht⟩
  | .str, _, _, .nil => ⟨[], [], rfl, .nil, .nil⟩
  | .str, _, _, .cons hr ht => ⟨[_], _, rfl, .cons hr .nil, ht⟩
  | .opq, _, _, .nil => ⟨[], [], rfl, .nil, .nil⟩
  | .opq, _, _, .cons hr ht => ⟨[_], _, rfl, .cons hr .nil, ht⟩
theorem argD1_ok {b : Bool} {t : TypeId} {x : Operand} {u : AV} (hx : OpOk F w β H env a x) (h : argD1 C env b t x = some u) : RepA F w β H u (a.eval x) := by
  unfold argD1 at h
  split at h
  · exact hx _ h
  · simp only [Option.bind_eq_some_iff] at h
    obtain ⟨v, h1, h2⟩ := h
    have r := hx _ h1
    split at h2
    · injection h2 with h2; subst h2; exact r
    · rename_i ty _
      split at h2
      · rename_i c
        have := nilC_ok (T := ty) (All2.cons (show RepV F w β H c (a.eval x) from r) .nil)
        split at h2
        · rename_i c' he
          injection h2 with h2
          subst h2
          rw [he] at this
          obtain ⟨v1, v2, e, r1, r2⟩ := this
          cases r2
          cases r1 with
          | cons r1 t => cases t; simp at e; subst e; exact r1
        · simp at h2
      · rename_i cs
        obtain ⟨vs, hv, r⟩ := r
        have := nilC_ok (T := ty) r
        split at h2
        · rename_i c' he
          injection h2 with h2
          subst h2
          rw [he] at this
          obtain ⟨v1, v2, e, r1, r2⟩ := this
          cases r2
          exact ⟨vs, hv, by rw [e, List.append_nil]; exact r1⟩
        · simp at h2
      · simp at h2
theorem argD_ok {b : Bool} : ∀ {l : List Operand} {m : List TypeId} {us : List AV}, (∀ x ∈ l, OpOk F w β H env a x) → argD C env b l m = some us → All2 (RepA F w β H) us (l.map a.eval)
  | [], m, us, _, h => by simp [argD] at h; subst h; exact .nil
  | x :: l, [], us, _, h => by simp [argD] at h
  | x :: l, t :: m, us, hx, h => by
    simp only [argD, Option.bind_eq_some_iff, Option.map_eq_some_iff] at h
    obtain ⟨u, h1, r, h2, rfl⟩ := h
    exact .cons (argD1_ok (hx x (by simp)) h1) (argD_ok (fun y hy => hx y (by simp [hy])) h2)
theorem all2_map_one {cs : List CV} {us : List Value} (h : All2 (RepV F w β H) cs us) : All2 (RepA F w β H) (cs.map AV.one) us := by
  induction h with
  | nil => exact .nil
  | cons r _ ih => exact .cons r ih
/-- What a call is handed. -/
theorem argsOf_ok (gd : Good L w0 w F0 F β H) {c : Call} {pa pb : List PV} {va vb : Array Value} {vs : List AV} {hs : List Nat} (hE : ∀ x ∈ c.args, OpOk F w β H env a x)
    (ra : All2 (RepP F w β H) pa va.toList) (rb : All2 (RepP F w β H) pb vb.toList) (h : argsOf C env H c pa pb = some (vs, hs)) : All2 (RepA (FB F β H (Dp H hs)) w (fun _ => none) []) vs (va ++ c.args.map a.eval ++ vb).toList := by
  simp only [argsOf, Option.bind_eq_some_iff, Option.map_eq_some_iff] at h
  obtain ⟨us, h1, a', h2, b', h3, ws, h4, h5⟩ := h
  simp at h5
  obtain ⟨rfl, rfl⟩ := h5
  have r1 := mapA_ok (S := RepA F w β H) (fun x _ y u r hy => pvav_ok hy r) ra h2
  have r3 := mapA_ok (S := RepA F w β H) (fun x _ y u r hy => pvav_ok hy r) rb h3
  have r2 : All2 (RepA F w β H) us (c.args.map a.eval).toList := by
    rw [Array.toList_map]
    exact argD_ok (fun x hx => hE x (by simpa using hx)) h1
  have r : All2 (RepA F w β H) (a' ++ (us ++ b')) (va ++ c.args.map a.eval ++ vb).toList := by
    rw [Array.toList_append, Array.toList_append, List.append_assoc]
    exact r1.append (r2.append r3)
  refine mapA_ok (f := pureA H) (R := RepA F w β H) (fun x hx y u r hy => pureA_ok gd (dp_deep H _) r hy fun k hk => .base ?_) r h4
  simp only [List.mem_append, List.mem_flatMap] at hx ⊢
  rcases hx with hx | hx | hx
  · exact .inl ⟨x, hx, hk⟩
  · exact .inr (.inl ⟨x, hx, hk⟩)
  · exact .inr (.inr ⟨x, hx, hk⟩)
/-- What an operation is to show. -/
def StepOk (P : Program) (w0 w : World) (F0 F : Nat → Prop) (β : Bd) (H : Heap) (o : Oper) (a : Act) (v : AV) (H' : Heap) : Prop :=
  ∀ (next : Act → World → Prop) (Q : Exit → Act → World → Prop), (∀ v' w' F' β', Good L w0 w' F0 F' β' H' → Keeps F F' w w' β β' H H' → RepA F' w' β' H' v v' → next (a.put o.dst v') w') → o.wp P a w next Q
theorem quiet_step (gd : Good L w0 w F0 F β H) (cx : CtxOk P C) (henv : ∀ t, RepA F w β H (envAt env t) (a.tmps.getD t undef)) (h : opQ C env H H.length o = some (true, v, sl)) : StepOk (L := L) P w0 w F0 F β H o a v (H ++ sl) := by
  intro next Q hn
  obtain ⟨g1, k1⟩ := good_more gd sl
  have pre : Pre L w0 w F0 F β H (H ++ sl) H.length sl := ⟨g1, fun h s hs _ => by rw [List.getElem?_append_left (List.getElem?_eq_some_iff.1 hs).1]; exact hs, fun j s hs => by rw [List.getElem?_append_right (by omega)]; simpa using hs⟩
  have q := opQ_ok pre (fun x _ v hv => (sim_ops gd henv x v hv).mono k1) cx h
  obtain ⟨v', w', β', hr, g2, k2, r, _, _⟩ := good_quiet pre (fun j _ => free_end gd j) q
  unfold Oper.wp
  rw [hr]
  exact hn v' w' F β' g2 (k1.trans k2) r
theorem eff_step (gd : Good L w0 w F0 F β H) (cx : CtxOk P C) (henv : ∀ t, RepA F w β H (envAt env t) (a.tmps.getD t undef)) (h : opE C env H o = some (true, v, H')) : StepOk (L := L) P w0 w F0 F β H o a v H' := by
  intro next Q hn
  obtain ⟨nx, w', F', β', hr, g2, k2, hv⟩ := opE_ok gd (fun x _ => sim_ops gd henv x) cx h
  unfold Oper.wp
  rw [hr]
  rcases hv with ⟨v', rfl, r⟩ | ⟨rfl, rfl⟩
  · exact hn v' w' F' β' g2 k2 r
  · exact hn undef w' F' β' g2 k2 trivial
theorem callee_ok (henv : ∀ t, RepA F w β H (envAt env t) (a.tmps.getD t undef)) (gd : Good L w0 w F0 F β H) {f : Operand} {g : FuncId} {pa pb : List PV} (h : callee env f = some (g, pa, pb)) :
    ∃ va vb, a.eval f = .func (.func g) va vb ∧ All2 (RepP F w β H) pa va.toList ∧ All2 (RepP F w β H) pb vb.toList := by
  simp only [callee, Option.bind_eq_some_iff] at h
  obtain ⟨c, h1, h2⟩ := h
  have r := (sim_ops gd henv f).cell h1
  split at h2
  · simp at h2
    obtain ⟨rfl, rfl, rfl⟩ := h2
    exact r
  · simp at h2
theorem call_step {R : Type} {call : CallK R} (hc : CallS P call) (gd : Good L w0 w F0 F β H) (henv : ∀ t, RepA F w β H (envAt env t) (a.tmps.getD t undef)) {c : Call} {f : Operand} {g : FuncId} {pa pb : List PV} {vs : List AV} {hs : List Nat} {r : AV} {H1 : Heap}
    (ho : o.op = .call c) (hcal : c.callee = .value f) (h1 : callee env f = some (g, pa, pb)) (h2 : argsOf C env H c pa pb = some (vs, hs)) (hok : CallOK P g ⟨vs, [], []⟩ r)
    (hf : (match aliasA r with | false => some H | true => freeze H hs) = some H1) : StepOk (L := L) P w0 w F0 F β H o a (adoptA r H1.length).1 (H1 ++ (adoptA r H1.length).2) := by
  intro next Q hn
  obtain ⟨va, vb, hfv, ra, rb⟩ := callee_ok henv gd h1
  have hargs := argsOf_ok gd (fun x _ => sim_ops gd henv x) ra rb h2
  have hex : (execOp a.eval o).run P w = (callFunc g (va ++ c.args.map a.eval ++ vb)).run P w := by
    simp [execOp, ho, resolve, hcal, hfv, Deferred.ofValue, invoke]
  have hfb : ∀ b, FB F β H (Dp H hs) b → b < w.heap.size := by
    rintro b (h | ⟨h, u, s, _, hs', hl, hb, hg⟩)
    · exact gd.fsz b h
    · exact ((gd.slot hb hs').lt hl hg).2.1
  unfold Oper.wp
  rw [hex]
  rcases hok.to0 w _ _ hfb hargs with ⟨he, hcalls⟩ | ⟨v', w', F'', he, hres⟩
  · rw [he]
    refine hcalls.mono ?_
    rintro e w' ⟨v', F'', rfl, hres⟩
    obtain ⟨F', β', g2, k2, r2⟩ := call_ok gd hres hf
    exact hn v' w' F' β' g2 k2 r2
  · rw [he]
    obtain ⟨F', β', g2, k2, r2⟩ := call_ok gd hres hf
    exact hn v' w' F' β' g2 k2 r2
theorem mem_reach_newH {ord : List Nat} {h k : Nat} (e : newH ord h = some k) : h ∈ ord := List.mem_of_getElem? (newH_at e)
theorem rootC_ok {ord : List Nat} (gd : Good L w0 w F0 F β H) : ∀ {hsL : List Nat} {rts : List CV}, mapA (rootC H ord) hsL = some rts → (∀ h ∈ hsL, ∀ s, H[h]? = some s → s.isLive = true → ∃ u, β h = some u) →
    (∀ h ∈ hsL, h ∈ ord) ∧ All2 (fun h c => (∃ k t cs, c = .ptr k 0 0 ∧ H[h]? = some (.box t cs)) ∨ ∃ k e t xs, c = .ref k ∧ H[h]? = some (.row true e t xs)) hsL rts ∧
      ∃ X, All2 (fun h x => β h = some x) hsL X ∧ All2 (RepV F w (rn β ord) (ord.map fun h => renS ord (slotAt H h))) rts X
  | [], rts, h, _ => by simp [mapA] at h; subst h; exact ⟨fun h hh => by simp at hh, .nil, [], .nil, .nil⟩
  | h :: l, rts, hm, hb => by
    simp only [mapA, Option.bind_eq_some_iff, Option.map_eq_some_iff] at hm
    obtain ⟨c, h1, r, h2, rfl⟩ := hm
    obtain ⟨a1, a2, X, a3, a4⟩ := rootC_ok gd h2 fun q hq => hb q (by simp [hq])
    have hu0 := hb h (by simp)
    unfold rootC at h1
    split at h1
    case h_2 => simp at h1
    rename_i k hk
    have hk1 := newH_at hk
    have hm := mem_reach_newH hk
    split at h1
    · rename_i t cs hs
      injection h1 with h1
      subst h1
      have hH := slotAt_row hs (by simp)
      obtain ⟨u, hu⟩ := hu0 _ hH rfl
      have hbk : rn β ord k = some u := by simp [rn, hk1, hu]
      obtain ⟨g, arr, e, hug, _⟩ := gd.slot hu hH
      refine ⟨fun q hq => (List.mem_cons.1 hq).elim (fun e => e ▸ hm) (a1 q), .cons (.inl ⟨k, t, cs, rfl, hH⟩) a2, u :: X, .cons hu a3, .cons ?_ a4⟩
      have hsl : (ord.map fun h => renS ord (slotAt H h))[k]? = some (.box t (cs.map (ren1 ord))) := by rw [ren_slot hk1, hs]; rfl
      simp only [RepV, RepPtr, hsl]
      exact ⟨trivial, g, by rw [hbk, hug], hug⟩
    · rename_i e t xs hs
      injection h1 with h1
      subst h1
      have hH := slotAt_row hs (by simp)
      obtain ⟨u, hu⟩ := hu0 _ hH rfl
      have hbk : rn β ord k = some u := by simp [rn, hk1, hu]
      have ok := gd.slot hu hH
      refine ⟨fun q hq => (List.mem_cons.1 hq).elim (fun e => e ▸ hm) (a1 q), .cons (.inr ⟨k, e, t, xs, rfl, hH⟩) a2, u :: X, .cons hu a3, .cons ?_ a4⟩
      have hsl : (ord.map fun h => renS ord (slotAt H h))[k]? = some (.row true e t xs) := by rw [ren_slot hk1, hs]; rfl
      simp only [RepV, hsl]
      refine ⟨hbk, ?_⟩
      obtain ⟨⟨_, ho, _⟩, _⟩ := ok
      exact ownsT_one ho
    · simp at h1
theorem ptr_beta {h i off : Nat} {u : Value} (r : RepPtr β H h i off u) {s : Slot} (hs : H[h]? = some s) (hl : s.isLive = true) : ∃ u, β h = some u := by
  unfold RepPtr at r
  rw [hs] at r
  cases s with
  | dead => simp [Slot.isLive] at hl
  | row l e t xs => obtain ⟨_, g, o, n, c, hb, _⟩ := r; exact ⟨_, hb⟩
  | box t cs => obtain ⟨_, g, hb, _⟩ := r; exact ⟨_, hb⟩
  | iter => exact r.elim
theorem pv_beta {q : PV} {u : Value} (r : RepP F w β H q u) {h : Nat} (hh : h ∈ hsP q) {s : Slot} (hs : H[h]? = some s) (hl : s.isLive = true) : ∃ u, β h = some u := by
  cases q with
  | ptr k i off => simp [hsP] at hh; subst hh; exact ptr_beta r hs hl
  | _ => simp [hsP] at hh
theorem pvs_beta {l : List PV} {us : List Value} (r : All2 (RepP F w β H) l us) {h : Nat} (hh : h ∈ l.flatMap hsP) {s : Slot} (hs : H[h]? = some s) (hl : s.isLive = true) : ∃ u, β h = some u := by
  obtain ⟨q, hq, hh⟩ := List.mem_flatMap.1 hh
  obtain ⟨i, hi⟩ := List.getElem?_of_mem hq
  obtain ⟨u, _, r⟩ := r.get hi
  exact pv_beta r hh hs hl
theorem lentAt_beta {ls : List Nat} : ∀ {us : List AV} {vs : List Value} {i : Nat}, All2 (RepA F w β H) us vs → ∀ {h : Nat}, h ∈ lentAt C ls i us → ∀ {s : Slot}, H[h]? = some s → s.isLive = true → ∃ u, β h = some u
  | [], _, _, _, h, hh, _, _, _ => by simp [lentAt] at hh
  | v :: r, b :: bs, i, .cons rv t, h, hh, s, hs, hl => by
    simp only [lentAt, List.mem_append] at hh
    rcases hh with hh | hh
    · split at hh
      · unfold lentC at hh
        split at hh
        · simp at hh
          subst hh
          have rv : RepV F w β H (.ref _) b := rv
          simp only [RepV, hs] at rv
          cases s with
          | dead => simp [Slot.isLive] at hl
          | row => exact ⟨_, rv.1⟩
          | box => exact rv.elim
          | iter => exact ⟨_, rv.1⟩
        · simp at hh
          subst hh
          exact ptr_beta (show RepPtr β H _ _ _ b from rv) hs hl
        · simp at hh
      · unfold lentV at hh
        split at hh
        · split at hh
          · have rv : RepV F w β H (.fn _ _ _) b := rv
            obtain ⟨va, vb, _, ra, rb⟩ := rv
            rcases List.mem_append.1 hh with hh | hh
            · exact pvs_beta ra hh hs hl
            · exact pvs_beta rb hh hs hl
          · simp at hh
        · simp at hh
    · exact lentAt_beta t hh hs hl
theorem lend_step (gd : Good L w0 w F0 F β H) (henv : ∀ t, RepA F w β H (envAt env t) (a.tmps.getD t undef)) {c : Call} {f : Operand} {g : FuncId} {pa pb : List PV} {h0 : Nat} {hsL hs ord : List Nat} {pk : Pack} {r v' : AV} {H' : Heap}
    (ho : o.op = .call c) (hcal : c.callee = .value f) (h1 : callee env f = some (g, pa, pb)) (h2 : packOf C env H c pa pb (h0 :: hsL) = some (pk, hs, ord)) (hok : CallOK P g pk r)
    (hf : afterL H (h0 :: hsL) hs ord r = some (v', H')) (h3 : lentOf C env g c pa pb = some (h0 :: hsL)) : StepOk (L := L) P w0 w F0 F β H o a v' H' := by
  intro next Q hn
  obtain ⟨va, vb, hfv, ra, rb⟩ := callee_ok henv gd h1
  simp only [packOf, Option.bind_eq_some_iff] at h2
  obtain ⟨us, q1, a', q2, b', q3, h2⟩ := h2
  split at h2
  · simp at h2
  rename_i hchk
  simp only [Bool.and_eq_true, decide_eq_true_eq, List.all_eq_true] at hchk
  obtain ⟨hnd, hnl, hrow⟩ := hchk
  simp only [Option.bind_eq_some_iff, Option.map_eq_some_iff] at h2
  obtain ⟨us', q4, rts, q5, h2⟩ := h2
  simp only [Prod.mk.injEq] at h2
  obtain ⟨rfl, rfl, rfl⟩ := h2
  generalize hordE : reach H (H.length * 8 + 64) (h0 :: hsL) [] = ord at *
  have hbeta : ∀ h ∈ h0 :: hsL, ∀ s, H[h]? = some s → s.isLive = true → ∃ u, β h = some u := fun h hh s hs hl => by
    simp only [lentOf, Option.map_eq_some_iff] at h3
    obtain ⟨us, q1, h3⟩ := h3
    rw [← h3] at hh
    have e2 : All2 (RepA F w β H) us (c.args.map a.eval).toList := by
      rw [Array.toList_map]
      exact argD_ok (fun x _ => sim_ops gd henv x) q1
    rcases List.mem_append.1 hh with hh | hh
    · split at hh
      · rcases List.mem_append.1 hh with hh | hh
        · exact pvs_beta ra hh hs hl
        · exact pvs_beta rb hh hs hl
      · simp at hh
    · exact lentAt_beta e2 hh hs hl
  obtain ⟨hord, hrr, X, hX, hrX⟩ := rootC_ok gd q5 hbeta
  have e1 := mapA_ok (S := RepA F w β H) (fun x _ y u r hy => pvav_ok hy r) ra q2
  have e3 := mapA_ok (S := RepA F w β H) (fun x _ y u r hy => pvav_ok hy r) rb q3
  have e2 : All2 (RepA F w β H) us (c.args.map a.eval).toList := by
    rw [Array.toList_map]
    exact argD_ok (fun x _ => sim_ops gd henv x) q1
  have e : All2 (RepA F w β H) (a' ++ (us ++ b')) (va ++ c.args.map a.eval ++ vb).toList := by
    rw [Array.toList_append, Array.toList_append, List.append_assoc]
    exact e1.append (e2.append e3)
  have hrows : ∀ h ∈ ((a' ++ (us ++ b')).flatMap hsA).filter (fun h => !ord.contains h), (∃ l e t xs, H[h]? = some (.row l e t xs)) ∧ h ∉ ord := fun h hh => by
    have h9 := hrow h hh
    refine ⟨?_, by simpa using (List.mem_filter.1 hh).2⟩
    unfold isRow at h9
    split at h9
    · rename_i l e t xs hs
      exact ⟨l, e, t, xs, slotAt_row hs (by simp)⟩
    · simp at h9
  have hD : ∀ h, Dp H (((a' ++ (us ++ b')).flatMap hsA).filter (fun h => !ord.contains h)) h → h ∉ ord := fun h hd => (hrows h (dp_rows (fun h hh => (hrows h hh).1) hd)).2
  have hargs := mapA_ok (f := packA H ord) (R := RepA F w β H) (S := RepA (FB F β H (Dp H (((a' ++ (us ++ b')).flatMap hsA).filter (fun h => !ord.contains h)))) w (rn β ord) (ord.map fun h => renS ord (slotAt H h))) (fun x hx y u r hy => packA_ok gd (dp_deep H _) r hy fun k hk hko => .base (List.mem_filter.2 ⟨List.mem_flatMap.2 ⟨x, hx, hk⟩, by simpa using hko⟩)) e q4
  have hex : (execOp a.eval o).run P w = (callFunc g (va ++ c.args.map a.eval ++ vb)).run P w := by
    simp [execOp, ho, resolve, hcal, hfv, Deferred.ofValue, invoke]
  have fin : ∀ {v : Value} {w' : World} {F' : Nat → Prop}, CResL (lendL β H ord) w (FB F β H (Dp H _)) X r v w' F' → ∃ F2 β2, Good L w0 w' F0 F2 β2 H' ∧ Keeps F F2 w w' β β2 H H' ∧ RepA F2 w' β2 H' v' v := fun hres =>
    after_ok gd hord hnl hrows hrr hX (by cases hX; simp) hres hf
  unfold Oper.wp
  rw [hex]
  rcases hok (lendL β H ord) w _ (rn β ord) _ X (lend_good gd hnd hD) hargs (hrX.mono fun _ _ => RepV.mono fb_keeps) with ⟨he, hcalls⟩ | ⟨v', w', F'', he, hres⟩
  · rw [he]
    refine hcalls.mono ?_
    rintro e w' ⟨v', F'', rfl, hres⟩
    obtain ⟨F', β', g2, k2, r2⟩ := fin hres
    exact hn _ w' F' β' g2 k2 r2
  · rw [he]
    obtain ⟨F', β', g2, k2, r2⟩ := fin hres
    exact hn _ w' F' β' g2 k2 r2
theorem pick_step (gd : Good L w0 w F0 F β H) (henv : ∀ t, RepA F w β H (envAt env t) (a.tmps.getD t undef)) {c x y : Operand} {t : Bool} (ho : o.op = .pick c x y) (h1 : oprC env c = some (.bool t)) (h2 : opr env (if t then x else y) = some v) : StepOk (L := L) P w0 w F0 F β H o a v H := by
  intro next Q hn
  have hcv : a.eval c = .bool t := (sim_ops gd henv c).cell h1
  have r := sim_ops gd henv _ _ h2
  have : (execOp a.eval o).run P w = .ok (.value (a.eval (if t then x else y))) w := by
    simp only [execOp, ho, hcv, asBool]
    cases t <;> simp
  unfold Oper.wp
  rw [this]
  exact hn _ w F β gd ⟨fun _ h => h, fun _ _ => rfl, fun _ _ h => h, fun h s hs => ⟨s, hs, like_refl s⟩⟩ r
theorem gen_ok {R : Type} {quiet : Bool} {K : AV → Heap → Option R} {out : R} (gd : Good L w0 w F0 F β H) (cx : CtxOk P C) (henv : ∀ t, RepA F w β H (envAt env t) (a.tmps.getD t undef))
    (h : (match opQ C env H H.length o with
      | some (b, v, sl) => match b with | true => K v (H ++ sl) | false => none
      | none => if quiet then none else match opE C env H o with
        | some (b, v, H') => match b with | true => K v H' | false => none
        | none => none) = some out) : ∃ v H', K v H' = some out ∧ StepOk (L := L) P w0 w F0 F β H o a v H' := by
  split at h
  · rename_i b v sl hq
    cases b with
    | false => simp at h
    | true => exact ⟨v, _, h, quiet_step gd cx henv hq⟩
  · split at h
    · simp at h
    · split at h
      · rename_i b v H' he
        cases b with
        | false => simp at h
        | true => exact ⟨v, H', h, eff_step gd cx henv he⟩
      · simp at h
/-! ### A range's next step -/
theorem pick_all {V R : Type} {es : List (Unit × Int × V)} {seen : List Nat} {over : Option R} {f : Nat → (Unit × Int × V) → Option R} {out : R} (h : pickAll es seen over f = some out) :
    (∀ i x, ¬ i ∈ seen → es[i]? = some x → f i x = some out) ∧ ((∀ i, i < es.length → i ∈ seen) → over = some out) := by
  unfold pickAll at h
  have mem : ∀ i x, (i, x) ∈ ((cands es.length seen).filterMap fun i => (es[i]?).map fun x => (i, x)) ↔ ¬ i ∈ seen ∧ es[i]? = some x := fun i x => by
    simp only [List.mem_filterMap, cands, List.mem_filter, List.mem_range, Option.map_eq_some_iff, Prod.mk.injEq]
    constructor
    · rintro ⟨j, ⟨_, h2⟩, y, h3, rfl, rfl⟩
      exact ⟨by simpa using h2, h3⟩
    · rintro ⟨h1, h2⟩
      exact ⟨i, ⟨(List.getElem?_eq_some_iff.1 h2).1, by simpa using h1⟩, x, h2, rfl, rfl⟩
  split at h
  · rename_i hl
    refine ⟨fun i x h1 h2 => ?_, fun _ => h⟩
    have := (mem i x).2 ⟨h1, h2⟩
    rw [hl] at this
    simp at this
  · rename_i p r hl
    split at h
    case isFalse => simp at h
    rename_i hall
    refine ⟨fun i x h1 h2 => ?_, fun hs => ?_⟩
    · have := (mem i x).2 ⟨h1, h2⟩
      rw [hl] at this
      rcases List.mem_cons.1 this with e | e
      · rw [← h, ← e]
      · rw [hall _ e, h]
    · have := (mem p.1 p.2).1 (by rw [hl]; simp)
      exact absurd (hs _ (List.getElem?_eq_some_iff.1 this.2).1) this.1
theorem next_step {R : Type} {K : AV → Heap → Option R} {out : R} (gd : Good L w0 w F0 F β H) (henv : ∀ t, RepA F w β H (envAt env t) (a.tmps.getD t undef)) {x : Operand} {h : Nat} {k : IntKind} {v0 : Ty} {es : List (Unit × Int × v0.den)} {seen : List Nat} (ho : o.op = .next x false) (h1 : oprC env x = some (.ref h)) (hs : slotAt H h = .iter k v0 es seen)
    (hp : pickAll es seen (K (.tup [(false, [.bool false])]) H) (fun i e => K (.tup [(false, [.bool true]), (false, [.int k e.2.1]), (v0.isAgg, flat v0 e.2.2)]) (H.set h (.iter k v0 es (seen ++ [i])))) = some out) : ∃ v H', K v H' = some out ∧ StepOk (L := L) P w0 w F0 F β H o a v H' := by
  obtain ⟨p1, p2⟩ := pick_all hp
  have rx := (sim_ops gd henv x).cell h1
  have hH := slotAt_row hs (by simp)
  simp only [RepV, hH] at rx
  obtain ⟨gi, g, arr, hu, hbase, hnF, hgi, hFg, hg, hm, hseen⟩ := gd.slot rx.1 hH
  have hlen := hm.2.length
  have hold : ∀ e ∈ arr.toList, e.born < arr.size := fun e he => by
    obtain ⟨i, hi⟩ := List.getElem?_of_mem he
    have hil := (List.getElem?_eq_some_iff.1 hi).1
    rw [Array.getElem?_toList] at hi
    rw [hm.1 i e hi]
    simpa using hil
  rcases run_next_at (P := P) w o.type gi g arr.size arr.size seen.toArray arr arr.size hgi hg hold (Nat.le_refl _) with ⟨hz, hrun⟩ | ⟨e, he, w1, hw1, hrun⟩
  · refine ⟨_, _, p2 fun i hi => ?_, fun next Q hn => ?_⟩
    · refine Classical.byContradiction fun hns => ?_
      have hia : i < arr.size := by simp at hlen; omega
      have : arr[i] ∈ (leftOf arr seen.toArray).toList := by
        simp only [leftOf, Array.toList_filter, List.mem_filter]
        refine ⟨by simp, ?_⟩
        have := hm.1 i arr[i] (by simp [hia])
        rw [this]
        simpa using hns
      have hle := List.length_pos_of_mem this
      simp at hle
      omega
    · unfold Oper.wp
      have : (execOp a.eval o).run P w = .ok (.value (.tuple #[.bool false])) w := by
        simp [execOp, ho, hu, hrun]
      rw [this]
      exact hn _ w F β gd ⟨fun _ h => h, fun _ _ => rfl, fun _ _ h => h, fun h s hs => ⟨s, hs, like_refl s⟩⟩ ⟨_, rfl, .cons ⟨_, rfl, rfl⟩ .nil⟩
  · simp only [leftOf, Array.toList_filter, List.mem_filter] at he
    obtain ⟨hea, hen⟩ := he
    obtain ⟨i, hi⟩ := List.getElem?_of_mem hea
    have hi' : arr[i]? = some e := by rwa [Array.getElem?_toList] at hi
    have hborn := hm.1 i e hi'
    obtain ⟨y, hy, hek, hev⟩ := hm.2.get hi
    have hns : ¬ i ∈ seen := by rw [hborn] at hen; simpa using hen
    refine ⟨_, _, p1 i y hns hy, fun next Q hn => ?_⟩
    unfold Oper.wp
    have : (execOp a.eval o).run P w = .ok (.value (.tuple #[.bool true, e.key, e.val])) (Go.ChangeMaps.setBlock w1 gi (.mapIter (some g) arr.size (seen.toArray.push e.born) arr.size)) := by
      simp [execOp, ho, hu, hrun]
    rw [this]
    have hh1 : w1.heap = w.heap := by rcases hw1 with rfl | rfl <;> rfl
    have hne : ∀ q, q ≠ gi → (Go.ChangeMaps.setBlock w1 gi (.mapIter (some g) arr.size (seen.toArray.push e.born) arr.size)).heap[q]? = w.heap[q]? := fun q hq => by
      simp only [Go.ChangeMaps.setBlock, hh1]
      rw [Array.getElem?_setIfInBounds_ne (by omega)]
    have hgne : g ≠ gi := fun e => hnF (e ▸ hFg)
    obtain ⟨g2, k2⟩ := good_write (w' := Go.ChangeMaps.setBlock w1 gi (.mapIter (some g) arr.size (seen.toArray.push e.born) arr.size)) gd hH rfl rx.1 (g := gi) (by rw [hu]; rfl) (s' := .iter k v0 es (seen ++ [i])) trivial
      ⟨by rcases hw1 with rfl | rfl <;> rfl, by rcases hw1 with rfl | rfl <;> rfl, by rcases hw1 with rfl | rfl <;> rfl, by simp [Go.ChangeMaps.setBlock, hh1], fun q hq => by omega⟩ (by simp [Go.ChangeMaps.setBlock, hh1]) hne fun kp => by
        refine ⟨gi, g, arr, hu, hbase, hnF, ?_, hFg, (hne g hgne).trans hg, hm.mono kp.f kp.w, fun j hj => ?_⟩
        · have hlt := (Array.getElem?_eq_some_iff.1 hgi).1
          simp [Go.ChangeMaps.setBlock, hh1, hlt, hborn]
        · rcases List.mem_append.1 hj with hj | hj
          · exact hseen j hj
          · simp at hj
            subst hj
            exact (Array.getElem?_eq_some_iff.1 hi').1
    refine hn _ _ F β g2 k2 ?_
    refine ⟨_, rfl, .cons ⟨_, rfl, rfl⟩ (.cons ⟨_, rfl, hek⟩ (.cons ?_ .nil))⟩
    have hev2 := hev.mono k2.f k2.w
    unfold ValR at hev2
    cases hv : v0.isAgg with
    | true =>
      simp only [hv] at hev2 ⊢
      obtain ⟨b, e1, e2⟩ := hev2
      exact ⟨b, e1, rep_flat e2⟩
    | false =>
      simp only [hv] at hev2 ⊢
      have := rep_flat (β := β) (H := H.set h (.iter k v0 es (seen ++ [i]))) hev2
      cases hf : flat v0 y.2.2 with
      | nil => rw [hf] at this; cases this
      | cons c r =>
        rw [hf] at this
        cases this with
        | cons r1 r2 =>
          cases r2
          exact ⟨c, rfl, r1⟩
theorem both_ok {R : Type} {x y : Option R} {out : R} (h : both x y = some out) : x = some out ∧ y = some out := by
  unfold both at h
  split at h
  · rename_i e; exact ⟨h, e ▸ h⟩
  · simp at h
/-- A slice is compared with nil. -/
theorem nil_step {R : Type} {K : AV → Heap → Option R} {out : R} (gd : Good L w0 w F0 F β H) (cx : CtxOk P C) (henv : ∀ t, RepA F w β H (envAt env t) (a.tmps.getD t undef)) {op : BinOp} {t r : TypeId} {x y : Operand} {e : Bool} (ho : o.op = .binOp op t x y r) (hT : nilT C env op t x y = some e)
    (h : (match (generalizing := false) e with
      | true => both (K (.one (.bool true)) H) (K (.one (.bool false)) H)
      | false => K (.one (.bool false)) H) = some out) : ∃ v H', K v H' = some out ∧ StepOk (L := L) P w0 w F0 F β H o a v H' := by
  unfold nilT at hT
  split at hT
  case h_2 => simp at hT
  split at hT
  case h_2 => simp at hT
  rename_i T hty
  simp only [Option.bind_eq_some_iff] at hT
  obtain ⟨c, h1, h2⟩ := hT
  split at h2
  case h_2 => simp at h2
  rename_i T' xs
  split at h2
  · simp at h2
  rename_i hm
  injection h2 with h2
  simp only [Bool.or_eq_false_iff] at hm
  have rx := (sim_ops gd henv x).cell h1
  obtain ⟨A, cap, hv, hle, hA⟩ := rx
  rw [hdr_sl hm.2] at hv
  simp at hv
  obtain ⟨d, i, z, tk⟩ := cx.ty _ _ hty
  obtain ⟨hd, _⟩ := tk.sl _ rfl hm.1
  have hrun : (execOp a.eval o).run P w = .ok (.value (.bool A.isNone)) w := by
    have hu := tk.und
    rw [hd] at hu
    have hy : a.eval (.const (.slice none 0 0)) = .slice none 0 0 := rfl
    simp [execOp, ho, hv, hy, eqGuard, Lib.run_eql_slice_nil w t _ A xs.length cap 0 0 hu]
  have step : StepOk (L := L) P w0 w F0 F β H o a (.one (.bool A.isNone)) H := by
    intro next Q hn
    unfold Oper.wp
    rw [hrun]
    exact hn _ w F β gd ⟨fun _ h => h, fun _ _ => rfl, fun _ _ h => h, fun h s hs => ⟨s, hs, like_refl s⟩⟩ rfl
  cases e with
  | true =>
    obtain ⟨e1, e2⟩ := both_ok h
    cases hA' : A.isNone with
    | true => rw [hA'] at step; exact ⟨_, H, e1, step⟩
    | false => rw [hA'] at step; exact ⟨_, H, e2, step⟩
  | false =>
    have hA' : A.isNone = false := by
      rcases hA with ⟨hx, _⟩ | ⟨g, o', cells, hA, _⟩
      · rw [hx] at h2; simp at h2
      · rw [hA]; rfl
    rw [hA'] at step
    exact ⟨_, H, h, step⟩
theorem doK_ok {R : Type} {call : CallK R} {quiet : Bool} {K : AV → Heap → Option R} {out : R} (hc : CallS P call) (gd : Good L w0 w F0 F β H) (cx : CtxOk P C) (henv : ∀ t, RepA F w β H (envAt env t) (a.tmps.getD t undef))
    (h : doK C call quiet o env H K = some out) : ∃ v H', K v H' = some out ∧ StepOk (L := L) P w0 w F0 F β H o a v H' := by
  unfold doK at h
  split at h
  · rename_i c x y ho
    split at h
    · rename_i t h1
      cases t with
      | true =>
        simp only [] at h
        split at h
        · rename_i v hv; exact ⟨v, H, h, pick_step gd henv ho h1 (by simpa using hv)⟩
        · simp at h
      | false =>
        simp only [] at h
        split at h
        · rename_i v hv; exact ⟨v, H, h, pick_step gd henv ho h1 (by simpa using hv)⟩
        · simp at h
    · simp at h
  · rename_i x s ho
    split at h
    case h_2 => simp at h
    split at h
    case h_2 => simp at h
    rename_i hh h1
    split at h
    case h_2 => simp at h
    rename_i k v0 es seen hs
    exact next_step gd henv ho h1 hs h
  · rename_i op t x y r ho
    split at h
    · rename_i e _ _ hT
      exact nil_step gd cx henv ho hT h
    · exact gen_ok gd cx henv h
  · rename_i c ho
    split at h
    · rename_i f hcal
      split at h
      · simp at h
      · rename_i g pa pb h1
        split at h
        · simp at h
        · rename_i hlen
          split at h
          · simp at h
          · rename_i vs hs h2
            obtain ⟨r, h3, hok⟩ := hc _ _ _ _ h
            split at h3
            · simp at h3
            · rename_i H1 h4
              have h4' : (match aliasA r with | false => some H | true => freeze H hs) = some H1 := by
                revert h4
                cases aliasA r with
                | false => exact id
                | true =>
                  simp only []
                  intro h4
                  split at h4
                  · simp at h4
                  · exact h4
              exact ⟨_, _, h3, call_step hc gd henv ho hcal h1 h2 hok h4'⟩
        · rename_i h0 hsL hlent
          split at h
          · simp at h
          · split at h
            · simp at h
            · rename_i pk hs ord h2
              obtain ⟨r, h3, hok⟩ := hc _ _ _ _ h
              split at h3
              · simp at h3
              · rename_i r' H1 h4
                exact ⟨_, _, h3, lend_step gd henv ho hcal h1 h2 hok h4 hlent⟩
    · exact gen_ok gd cx henv h
  · exact gen_ok gd cx henv h
end
end Go.Proofs.Ytanpdkllnmeenaa.Am

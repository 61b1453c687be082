/- All functions: what the machine says of a call is so. -/
import Derived.Test.YtanpdkllnmeenaaAmCode
namespace Go.Proofs.Ytanpdkllnmeenaa.Am
open Go Go.RowKit
set_option linter.unusedVariables false
set_option linter.unusedSectionVars false
set_option linter.unusedSimpArgs false
section
variable {P : Program} {C : Ctx} {F F' F1 F'' : Nat → Prop} {w w' : World} {β β' β0 : Bd} {H H' H1 G H0 : Heap}
variable {L : Nat → Prop} {X : List Value} {w0 : World} {F0 : Nat → Prop} {n : Nat} {sl : List Slot} {env : List AV} {a : Act} {o : Oper} {v : AV} {base : Nat → Prop} {D : Nat → Prop} {st st' : St}
def resSem (tmps : Array Value) : ResultVar → Sem Value
  | .tmp t => pure (tmps.getD t undef)
  | .cell a t => do loadVar t (← asAddr (tmps.getD a undef))
theorem results_eq (fn : Func) (tmps : Array Value) : results fn tmps = (do let vs ← fn.results.mapM (resSem tmps); pure (if h : vs.size = 1 then vs[0] else .tuple vs)) := by
  unfold results
  congr 1
theorem resV_ok (gd : Good L w0 w F0 F β st.heap) (cx : CtxOk P C) (henv : ∀ t, RepA F w β st.heap (envAt st.env t) (a.tmps.getD t undef)) {rv : ResultVar} (h : resV C st rv = some v) : ∃ u, (resSem a.tmps rv).run P w = .ok u w ∧ RepA F w β st.heap v u := by
  cases rv with
  | tmp t =>
    simp only [resV] at h
    split at h
    · simp at h
    · injection h with h
      subst h
      exact ⟨_, rfl, henv t⟩
  | cell x t =>
    simp only [resV, Option.bind_eq_some_iff] at h
    obtain ⟨T, hT, c, hc, cs, h1, h2⟩ := h
    obtain ⟨d, i, z, tk⟩ := cx.ty _ _ hT
    have r : RepV F w β st.heap c (a.tmps.getD x undef) := by
      have := henv x
      cases hx : envAt st.env x <;> rw [hx] at hc <;> simp [cell1] at hc
      subst hc
      rw [hx] at this
      exact this
    obtain ⟨g, off, vs, hu, hr, hl, rr⟩ := read_ok gd (fun h s e hs => slotAt_row e hs) r h1
    refine ⟨_, ?_, mkAV_ok h2 rr⟩
    have := run_load_of tk hr hl
    simp only [Instr.loadAt, Instr.sureAddr, Sem.run_bind, Sem.run_pure, Result.andThen_ok] at this
    simp only [resSem, hu, asAddr, Sem.run_bind, Sem.run_pure, Result.andThen_ok]
    exact this
theorem run_list_mapM {α : Type} {f : α → Sem Value} {R : AV → Value → Prop} {g : α → Option AV} (hf : ∀ x v, g x = some v → ∃ u, (f x).run P w = .ok u w ∧ R v u) : ∀ {l : List α} {m : List AV}, l.mapM g = some m → ∃ us, (l.mapM f).run P w = .ok us w ∧ All2 R m us
  | [], m, h => by simp at h; subst h; exact ⟨[], by simp, .nil⟩
  | x :: l, m, h => by
    simp only [List.mapM_cons, Option.bind_eq_bind, Option.bind_eq_some_iff] at h
    obtain ⟨v, h1, r, h2, h3⟩ := h
    simp at h3
    subst h3
    obtain ⟨u, a1, a2⟩ := hf x v h1
    obtain ⟨us, b1, b2⟩ := run_list_mapM hf h2
    exact ⟨u :: us, by simp [List.mapM_cons, a1, b1], .cons a2 b2⟩
theorem res0_ok {fn : Func} {r : AV} (gd : Good L w0 w F0 F β st.heap) (cx : CtxOk P C) (henv : ∀ t, RepA F w β st.heap (envAt st.env t) (a.tmps.getD t undef)) {vs : List AV} {fz : List Nat} (h1 : fn.results.toList.mapM (resV C st) = some vs) (h2 : freeze st.heap fz = some H1) (h : ((expT H1 [] vs).bind fun us => match us with
      | [u] => mkAV u.1 u.2
      | us => some (.tup us)) = some r) : ∃ v F', (results fn a.tmps).run P w = .ok v w ∧ Good L w0 w F0 F' β H1 ∧ RepR (Bs L w0) F' w r v := by
  simp only [Option.bind_eq_some_iff] at h
  obtain ⟨us, h3, h4⟩ := h
  obtain ⟨ws, hrun, hrep⟩ := run_list_mapM (P := P) (w := w) (f := resSem a.tmps) (R := RepA F w β st.heap) (fun x v hx => resV_ok gd cx henv hx) h1
  obtain ⟨F1, g1, k1, _, _⟩ := freeze_ok gd h2
  obtain ⟨hs, xs, _, hnd, hgives, hout⟩ := expT_ok g1 (hrep.mono fun _ _ => RepA.mono k1) h3
  have hres : (results fn a.tmps).run P w = .ok (if h : ws.toArray.size = 1 then ws.toArray[0] else .tuple ws.toArray) w := by
    rw [results_eq, Array.mapM_eq_mapM_toList]
    simp [hrun]
  refine ⟨_, F1, hres, g1, ?_⟩
  have hdis := gives_dis g1 hnd hgives
  have hlen : us.length = ws.length := by
    have := (hout.2 0 (fun i => xs[i]?) ((adoptT us 0).2) (fun j s hs => by simpa using hs) (fun j u hu => by simpa using hu)).1
    have h2 := this.length
    have : ∀ (us : List (Bool × List CV)) n, (adoptT us n).1.length = us.length := by
      intro us
      induction us with
      | nil => intro n; rfl
      | cons u us ih => intro n; simp [adoptT, ih]
    rw [this] at h2
    exact h2
  by_cases hone : ws.length = 1
  · obtain ⟨x, rfl⟩ := List.length_eq_one_iff.1 hone
    obtain ⟨u, rfl⟩ := List.length_eq_one_iff.1 hlen
    have e1 : (adoptT [u] 0).2 = (adoptL u.2 0).2 := by simp [adoptT]
    simp only [] at h4
    rcases u with ⟨b, cs⟩
    cases b with
    | true =>
      simp [mkAV] at h4
      subst h4
      refine ⟨xs, by rw [hout.1, e1]; rfl, hdis, fun n β2 H2 hH hβ => ?_⟩
      obtain ⟨y1, y2⟩ := hout.2 n β2 H2 (by rw [e1]; exact hH) hβ
      refine ⟨?_, by rw [e1] at y2; exact y2⟩
      cases y1 with
      | cons y _ => exact y
    | false =>
      cases cs with
      | nil => simp [mkAV] at h4
      | cons c cs =>
        cases cs with
        | cons c2 cs => simp [mkAV] at h4
        | nil =>
          simp [mkAV] at h4
          subst h4
          have e2 : (adoptL [c] 0).2 = (adopt1 c 0).2 := by simp [adoptL]
          refine ⟨xs, by rw [hout.1, e1, e2]; rfl, hdis, fun n β2 H2 hH hβ => ?_⟩
          obtain ⟨y1, y2⟩ := hout.2 n β2 H2 (by rw [e1, e2]; exact hH) hβ
          refine ⟨?_, by rw [e1, e2] at y2; exact y2⟩
          cases y1 with
          | cons y _ =>
            obtain ⟨q, hq, y⟩ := y
            simp [adoptL] at hq
            subst hq
            exact y
  · have hr : r = .tup us := by
      match us, hlen with
      | [], _ => simp at h4; exact h4.symm
      | [u], hl => simp at hl; omega
      | u :: u2 :: us, _ => simp at h4; exact h4.symm
    subst hr
    have hd' : ¬ ws.toArray.size = 1 := by simpa using hone
    rw [dif_neg hd']
    refine ⟨xs, hout.1, hdis, fun n β2 H2 hH hβ => ?_⟩
    obtain ⟨y1, y2⟩ := hout.2 n β2 H2 hH hβ
    refine ⟨⟨ws.toArray, rfl, ?_⟩, y2⟩
    have y1' : All2 (RepU F1 w β2 H2) (adoptT us n).1 ws.toArray.toList := by simpa using y1
    exact y1'.mono fun u v h => h
theorem rootV_ok (gd : Good L w0 w F0 F β H) {c : CV} {x : Value} {v : AV} (r : RepV F w β H c x) (h : rootV H c = some v) : ∃ ct, RepA F w β H v ct ∧ ((∃ k i off t cs g arr e, c = .ptr k i off ∧ v = .agg cs ∧ H[k]? = some (.box t cs) ∧ β k = some x ∧ x = .pointer (some ⟨g, 0, none⟩) ∧ ct = .agg arr ∧ w.heap[g]? = some (.cells arr e (0, 0)) ∧ Bs L w0 g ∧ ¬ F g) ∨ (∃ k, c = .ref k ∧ ((∃ A n c, x = .slice A n c) ∨ ∃ g, x = .map (some g)) ∧ ct = x)) := by
  cases c with
  | ptr k i off =>
    simp only [rootV] at h
    split at h
    · rename_i t cs hs
      split at h
      · rename_i hio
        obtain ⟨rfl, rfl⟩ := hio
        injection h with h
        subst h
        have hH := slotAt_row hs (by simp)
        simp only [RepV, RepPtr, hH] at r
        obtain ⟨_, g, hb, rfl⟩ := r
        obtain ⟨g', arr, e, hu, hB, harr, hall, hnF⟩ := gd.slot hb hH
        simp at hu
        subst hu
        exact ⟨.agg arr, ⟨arr, rfl, hall⟩, .inl ⟨k, 0, 0, t, cs, g, arr, e, rfl, rfl, hH, hb, rfl, rfl, harr, hB, hnF⟩⟩
      · simp at h
    · simp at h
  | ref k =>
    simp only [rootV] at h
    split at h
    · rename_i e t xs hs
      injection h with h
      subst h
      have hH := slotAt_row hs (by simp)
      have r2 := r
      simp only [RepV, hH] at r2
      refine ⟨x, r, .inr ⟨k, rfl, ?_, rfl⟩⟩
      obtain ⟨⟨_, ho, _⟩, _⟩ := gd.slot r2.1 hH
      rcases ownsT_kind ho with ⟨_, A, c, h⟩ | ⟨g, _, h⟩
      · exact .inl ⟨_, _, _, h⟩
      · exact .inr ⟨_, h⟩
    · simp at h
  | _ => simp [rootV] at h
theorem roots_ok (gd : Good L w0 w F0 F β H) : ∀ {rts : List CV} {X : List Value} {rs : List AV}, All2 (RepV F w β H) rts X → mapA (rootV H) rts = some rs →
    ∃ cts, All2 (RepA F w β H) rs cts ∧ cts.length = rts.length ∧ ∀ (j : Nat) (c : CV) (x ct : Value), rts[j]? = some c → X[j]? = some x → cts[j]? = some ct →
      ((∃ k i off t cs g arr e, c = .ptr k i off ∧ H[k]? = some (.box t cs) ∧ β k = some x ∧ x = .pointer (some ⟨g, 0, none⟩) ∧ ct = .agg arr ∧ w.heap[g]? = some (.cells arr e (0, 0)) ∧ Bs L w0 g ∧ ¬ F g) ∨ (∃ k, c = .ref k ∧ ((∃ A n c, x = .slice A n c) ∨ ∃ g, x = .map (some g)) ∧ ct = x))
  | [], _, rs, .nil, h => by simp [mapA] at h; subst h; exact ⟨[], .nil, rfl, fun j c x ct hj => by simp at hj⟩
  | c :: l, x :: X, rs, .cons r t, h => by
    simp only [mapA, Option.bind_eq_some_iff, Option.map_eq_some_iff] at h
    obtain ⟨v, h1, q, h2, rfl⟩ := h
    obtain ⟨ct, a1, a2⟩ := rootV_ok gd r h1
    obtain ⟨cts, b1, b2, b3⟩ := roots_ok gd t h2
    refine ⟨ct :: cts, .cons a1 b1, by simp [b2], fun j c' x' ct' e1 e2 e3 => ?_⟩
    cases j with
    | zero =>
      simp at e1 e2 e3
      subst e1 e2 e3
      rcases a2 with ⟨k, i, off, t, cs, g, arr, e, e1, _, r⟩ | r
      · exact .inl ⟨k, i, off, t, cs, g, arr, e, e1, r⟩
      · exact .inr r
    | succ j => exact b3 j c' x' ct' (by simpa using e1) (by simpa using e2) (by simpa using e3)
theorem adoptA_tup (us : List (Bool × List CV)) (n : Nat) : adoptA (.tup us) n = (.tup (adoptT us n).1, (adoptT us n).2) := rfl
theorem res_ok {fn : Func} {r : AV} (hs : Sim L w0 F0 X st a w) (cx : CtxOk P C) {fid : FuncId} (h : resK C fid fn st = some r) : ∃ v F', (results fn a.tmps).run P w = .ok v w ∧ a.defers = [] ∧ CResL L w0 F0 X r v w F' := by
  obtain ⟨F, β, gd, ⟨hd, hX⟩, hsz, henv⟩ := hs
  simp only [resK, Option.bind_eq_some_iff] at h
  obtain ⟨vs, h1, h⟩ := h
  split at h
  · rename_i c hfn
    simp only [Option.map_eq_some_iff] at h
    obtain ⟨c', h2, rfl⟩ := h
    unfold fnRes at hfn
    split at hfn
    case h_2 => simp at hfn
    rename_i hrt
    split at hfn
    case h_2 => simp at hfn
    rename_i f pa pb
    injection hfn with hfn
    subst hfn
    obtain ⟨ws, hrun, hrep⟩ := run_list_mapM (P := P) (w := w) (f := resSem a.tmps) (R := RepA F w β st.heap) (fun x v hx => resV_ok gd cx henv hx) h1
    cases hrep with
    | cons r t =>
      cases t
      have hX0 := hX.length
      rw [hrt] at hX0
      cases X with
      | cons x0 X0 => simp at hX0
      | nil =>
      rename_i u
      have hp : ∀ (β2 : Bd) (H2 : Heap), RepV (FB F β st.heap (Dp st.heap (hsC (.fn f pa pb)))) w β2 H2 c' u := fun β2 H2 => pureC_ok gd (dp_deep _ _) (c := .fn f pa pb) (show RepV F w β st.heap (.fn f pa pb) u from r) h2 fun k hk => .base hk
      have hfnc : ∃ f' a' b', c' = .fn f' a' b' := by
        simp only [pureC, Option.bind_eq_some_iff] at h2
        obtain ⟨a', _, b', _, h3⟩ := h2
        simp at h3
        exact ⟨_, _, _, h3.symm⟩
      obtain ⟨f', a', b', rfl⟩ := hfnc
      refine ⟨u, FB F β st.heap (Dp st.heap (hsC (.fn f pa pb))), ?_, hd, gd.below, fb_lt gd, fun g hg hn => ?_, fun g hg => .inl (gd.f1 g hg), [], rfl, fun j j' u u' g hj => by simp at hj, fun n β2 H2 _ _ => ⟨hp β2 H2, fun j s u hs => by simp [adoptA, adopt1] at hs⟩⟩
      · rw [results_eq, Array.mapM_eq_mapM_toList]
        simp [hrun]
      · rcases hg with hg | ⟨h, v, s, _, hs, hl, hv, hg⟩
        · exact gd.f0 g hg hn
        · exact absurd ((gd.slot hv hs).lt hl hg).1 hn
  simp only [Option.bind_eq_some_iff] at h
  obtain ⟨H1, h2, h⟩ := h
  split at h
  · rename_i hrt
    obtain ⟨v, F', hrun, g1, hr⟩ := res0_ok gd cx henv h1 h2 h
    refine ⟨v, F', hrun, hd, g1.below, g1.fsz, g1.f0, g1.f1, ?_⟩
    rw [hrt] at hX
    cases hX
    exact hr
  · rename_i c0 rts0 hrt
    simp only [Option.bind_eq_some_iff, Option.map_eq_some_iff] at h
    obtain ⟨rs, h3, H2, h4, us, h5, rfl⟩ := h
    obtain ⟨ws, hrun, hrep⟩ := run_list_mapM (P := P) (w := w) (f := resSem a.tmps) (R := RepA F w β st.heap) (fun x v hx => resV_ok gd cx henv hx) h1
    obtain ⟨F1, g1, k1, _, _⟩ := freeze_ok gd h2
    obtain ⟨cts, c1, c2, c3⟩ := roots_ok g1 (hX.mono fun _ _ => RepV.mono k1) h3
    obtain ⟨F2, g2, k2, _, _⟩ := freeze_ok g1 h4
    have hall : All2 (RepA F2 w β H2) (rs ++ vs) (cts ++ ws) := (c1.mono fun _ _ => RepA.mono k2).append (hrep.mono fun _ _ => RepA.mono (k1.trans k2))
    obtain ⟨hs, xs, _, hnd, hgives, hout⟩ := expT_ok g2 hall h5
    have hres : (results fn a.tmps).run P w = .ok (oneOf ws) w := by
      rw [results_eq, Array.mapM_eq_mapM_toList]
      simp [hrun, oneOf]
    refine ⟨_, F2, hres, hd, g2.below, g2.fsz, g2.f0, g2.f1, ?_⟩
    have hXl := hX.length
    rw [hrt] at hXl
    cases X with
    | nil => simp at hXl
    | cons x0 X0 =>
    refine ⟨us, ws, rfl, rfl, xs, cts, ⟨hout.1, gives_dis g2 hnd hgives, fun n β2 H2 hH hβ => ?_⟩, by rw [c2]; exact hX.length, fun j x ct e2 e3 => ?_⟩
    · obtain ⟨y1, y2⟩ := hout.2 n β2 H2 hH hβ
      exact ⟨⟨(cts ++ ws).toArray, rfl, y1.mono fun u v h => h⟩, y2⟩
    · obtain ⟨c, e1, _⟩ := hX.getR e2
      rcases c3 j c x ct e1 e2 e3 with ⟨k, i, off, t, cs, g, arr, e, rfl, hk, hb, hxg, rfl, harr, hB, hnF⟩ | ⟨k, rfl, hsl, rfl⟩
      · obtain ⟨s2, hs2, hl2⟩ := k2.h k _ hk
        have hk2 : ∃ cs', H2[k]? = some (.box t cs') := by
          obtain ⟨s3, hs3, ok3⟩ := g2.dom k x hb
          rw [hs2] at hs3
          injection hs3 with hs3
          have hfr := freeze_box h4 hk
          exact ⟨cs, hfr⟩
        obtain ⟨cs', hk2⟩ := hk2
        have ok2 := g2.slot hb hk2
        refine .inr ⟨g, arr, e, hxg, rfl, harr, hB, (ok2.lt rfl (g := g) (by rw [hxg]; rfl)).2.2, fun j' u hu hg => ?_⟩
        obtain ⟨h', e1', a1', e2', t2, xs2, b1'⟩ := All2.getR hgives hu
        have := g2.sep k h' _ _ x u g hk2 b1' rfl rfl hb a1' (by rw [hxg]; rfl) hg
        subst this
        rw [hk2] at b1'
        simp at b1'
      · exact .inl ⟨hsl, rfl⟩
theorem run_enter {f : FuncId} {fn : Func} {c : Code} (hf : P.funcs[f]? = some fn) (hname : (fn.name == "runtime.NumGoroutine") = false) (hb : fn.body = some c) (args : Array Value) (w : World) : (callFunc f args).run P w = .ok (.enter f args) w := by
  simp [callFunc, program, Sem.run, hf, hb]
  simp at hname
  simp [hname]
/-- What is known of what is told otherwise. -/
def PrimsOk (P : Program) (pr : Prims) : Prop := ∀ g f vs r, pr g = some f → f vs = some r → CallOK P g vs r
theorem fun_ok {call : CallF} (hd : DetC call) (hc : ∀ {R : Type}, CallS P (@call R)) (cx : CtxOk P C) (hg : ∀ (g : FuncId) (fn : Func), P.funcs[g]? = some fn → (fn.name == "runtime.NumGoroutine") = false) {g : FuncId} {fn : Func} (hf : P.funcs[g]? = some fn) {k : Nat} {vs : Pack} {r : AV} (h : aFun C g fn (@call AV) k vs some = some r) : CallOK P g vs r := by
  intro L w F β args X gd0 hargs hX0
  unfold aFun at h
  split at h
  · simp at h
  rename_i c hb
  refine .inl ⟨run_enter hf (hg g fn hf) hb args w, ?_⟩
  refine calls_of_wp hf hb ?_
  have hsim : Sim L w F X ⟨vs.vs ++ List.replicate (fn.ntmps - vs.vs.length) .undef, vs.heap, vs.roots⟩ { tmps := args ++ Array.replicate (fn.ntmps - args.size) undef, defers := [] } w := by
    have hl := hargs.length
    simp only [Array.length_toList] at hl
    refine ⟨F, β, gd0, ⟨rfl, hX0⟩, by simp [hl], fun t => ?_⟩
    simp only [envAt, List.getD_eq_getElem?_getD]
    by_cases ht : t < vs.vs.length
    · rw [List.getElem?_append_left ht]
      obtain ⟨u, h1, h2⟩ := hargs.get (List.getElem?_eq_getElem ht)
      have h3 : (args ++ Array.replicate (fn.ntmps - args.size) undef).getD t undef = u := by
        rw [Array.getElem?_toList] at h1
        have hlt := (Array.getElem?_eq_some_iff.1 h1).1
        rw [Array.getD_eq_getD_getElem?, Array.getElem?_append_left hlt, h1]; rfl
      rw [h3, List.getElem?_eq_getElem ht]
      exact h2
    · rw [List.getElem?_append_right (by omega)]
      cases hq : (List.replicate (fn.ntmps - vs.vs.length) AV.undef)[t - vs.vs.length]? with
      | none => trivial
      | some x =>
        have := List.mem_of_getElem? hq
        rw [List.mem_replicate] at this
        rw [this.2]; trivial
  refine wp_mono (code_ok hc cx c 0 _ _ _ _ h hsim) ?_
  rintro e a' w' ⟨e', st', rfl, hK, hs'⟩
  cases e' with
  | exit id => simp at hK
  | normal =>
    simp only [] at hK
    split at hK
    · rename_i r' hr
      injection hK with hK
      subst hK
      obtain ⟨v, F', hrun, hdf, hres⟩ := res_ok hs' cx hr
      exact ⟨hdf, v, hrun, v, F', rfl, hres⟩
    · simp at hK
  | ret =>
    simp only [] at hK
    split at hK
    · rename_i r' hr
      injection hK with hK
      subst hK
      obtain ⟨v, F', hrun, hdf, hres⟩ := res_ok hs' cx hr
      exact ⟨hdf, v, hrun, v, F', rfl, hres⟩
    · simp at hK
/-- ALL CALLS. -/
theorem call_all (cx : CtxOk P C) (hn : C.nxt = false) (hg : ∀ (g : FuncId) (fn : Func), P.funcs[g]? = some fn → (fn.name == "runtime.NumGoroutine") = false) {pr : Prims} (hp : PrimsOk P pr) : ∀ k {R : Type}, CallS P (fun g vs K => aCallK P C pr k (R := R) g vs K)
  | 0, R => fun g vs K out h => by simp [aCallK] at h
  | k + 1, R => fun g vs K out h => by
    obtain ⟨r, h1, hall⟩ := aCallK_det P C hn pr (k + 1) g vs K out h
    refine ⟨r, h1, ?_⟩
    have h2 : aCallK P C pr (k + 1) g vs some = some r := hall some
    simp only [aCallK] at h2
    split at h2
    · rename_i f hf
      split at h2
      · rename_i r' hr
        injection h2 with h2
        subst h2
        exact hp g f vs r' hf hr
      · simp at h2
    · split at h2
      · simp at h2
      · rename_i fn hf
        split at h2
        · exact fun_ok (aCallK_det P C hn pr k) (call_all cx hn hg hp k) cx hg hf h2
        · rename_i nf hnf
          split at h2
          · rename_i r0 hr0
            split at h2
            · rename_i r' hr'
              injection h2 with h2
              subst h2
              have := cx.nd _ _ _ _ hnf hr'
              subst this
              exact fun_ok (C := C.on) (aCallK_det P C hn pr k) (call_all cx hn hg hp k) cx.on hg hf hr0
            · simp at h2
          · simp at h2
end
end Go.Proofs.Ytanpdkllnmeenaa.Am

/- Regions in the order of the text; states told anew. -/
import Derived.Test.YtanpdkllnmeenaaAmRun
namespace Go.Proofs.Ytanpdkllnmeenaa.Am
open Go Go.RowKit
set_option linter.unusedVariables false
set_option linter.unusedSectionVars false
set_option linter.unusedSimpArgs false
section
variable {P : Program} {C : Ctx} {F F' F1 F'' : Nat → Prop} {w w' : World} {β β' β0 : Bd} {H H' H1 G H0 : Heap}
variable {L : Nat → Prop} {X : List Value} {w0 : World} {F0 : Nat → Prop} {n : Nat} {sl : List Slot} {env : List AV} {a : Act} {o : Oper} {v : AV} {base : Nat → Prop} {D : Nat → Prop} {st st' : St}
theorem sim_next (gd : Good L w0 w F0 F β st.heap) (hd : a.defers = [] ∧ All2 (RepV F w β st.heap) st.roots X) (hsz : a.tmps.size = st.env.length) (henv : ∀ t, RepA F w β st.heap (envAt st.env t) (a.tmps.getD t undef)) {v' : Value} {d : Option Tmp} (g2 : Good L w0 w' F0 F' β' H') (k2 : Keeps F F' w w' β β' st.heap H') (r : RepA F' w' β' H' v v') :
    Sim L w0 F0 X ⟨put st.env d v, H', st.roots⟩ (a.put d v') w' := by
  obtain ⟨h1, h2⟩ := put_at (d := d) hsz r fun t => (henv t).mono k2
  exact ⟨F', β', g2, ⟨by cases d <;> exact hd.1, hd.2.mono fun _ _ => RepV.mono k2⟩, h2, h1⟩
theorem rep_skip {F : Nat → Prop} {w : World} {β : Bd} {H : Heap} : RepA F w β H (.tup []) undef := ⟨#[], rfl, .nil⟩
theorem skip_eq {F : Nat → Prop} {w : World} {β : Bd} {H : Heap} {u : Value} (h : RepA F w β H (.tup []) u) : u = undef := by
  obtain ⟨vs, rfl, h⟩ := h
  have : vs.toList = [] := by cases h' : vs.toList with | nil => rfl | cons x r => rw [h'] at h; cases h
  have : vs = #[] := by cases vs; simp at this; simp [this]
  rw [this]; rfl
theorem yield_skip {ops : Array Oper} {tmps : Array Value} {F : Nat → Prop} {w : World} {β : Bd} {H : Heap} {env : List AV} {j d : Nat} (hdst : (ops[j]?).bind (·.dst) = some d) (h : RepA F w β H (envAt env d) (tmps.getD d undef)) (hb : envAt env d = .tup []) : yielded ops tmps j = none := by
  rw [hb] at h
  have e := skip_eq h
  unfold yielded
  rw [hdst]
  simp only [Option.bind_some]
  rw [Array.getD_eq_getD_getElem?] at e
  cases hx : tmps[d]? with
  | none => rfl
  | some x =>
    rw [hx] at e
    simp at e
    subst e
    rfl
theorem opsK_ok {R : Type} {call : CallK R} {ops : Array Oper} {Q : Exit → Act → World → Prop} (hc : CallS P call) (cx : CtxOk P C) : ∀ (l : List Oper) (q : Nat) (st : St) (a : Act) (w : World) (K : St → Option R) (out : R), opsK C call ops q [] l st K = some out → Sim L w0 F0 X st a w →
    (∀ st' a' w', K st' = some out → Sim L w0 F0 X st' a' w' → Q .normal a' w') → wpList P ops Q l a w
  | [], q, st, a, w, K, out, h, hs, hQ => by
    simp only [opsK] at h
    exact hQ st a w h hs
  | o :: rest, q, st, a, w, K, out, h, hs, hQ => by
    obtain ⟨F, β, gd, hd, hsz, henv⟩ := hs
    simp only [opsK, List.headD_nil, List.tail_nil] at h
    unfold wpList
    split at h
    · rename_i hg
      rw [if_pos (by simp [Region.wanted, hg])]
      left
      obtain ⟨v, H', h1, hst⟩ := doK_ok hc gd cx henv h
      exact hst _ _ fun v' w' F' β' g2 k2 r => opsK_ok hc cx rest _ _ _ _ K out h1 (sim_next gd hd hsz henv g2 k2 r) hQ
    · rename_i j want hg
      split at h
      · simp at h
      · rename_i d hdst
        split at h
        case h_3 => simp at h
        case h_2 =>
          rename_i hb
          rw [if_neg (by simp [Region.wanted, hg, yield_skip hdst (henv d) hb])]
          exact opsK_ok hc cx rest _ _ _ _ K out h (sim_next gd hd hsz henv gd ⟨fun _ h => h, fun _ _ => rfl, fun _ _ h => h, fun h s hs => ⟨s, hs, like_refl s⟩⟩ rep_skip) hQ
        rename_i b hb
        have hyield : yielded ops a.tmps j = some b := by
          unfold yielded
          rw [hdst]
          simp only [Option.bind_some, env_bool (henv d) hb]
        have hwant : Region.wanted o (yielded ops a.tmps) = (b == want) := by
          simp [Region.wanted, hg, hyield]
        obtain ⟨henv2, hsz2⟩ := env_set hsz henv hb
        have go : ∀ {b' : Bool}, b' = b → doK C call (0 < q) o (st.env.set d (.one (.bool b'))) st.heap (fun v H => opsK C call ops (q - 1) [] rest ⟨put (st.env.set d (.one (.bool b'))) o.dst v, H, st.roots⟩ K) = some out → o.wp P a w (wpList P ops Q rest) Q := fun {b'} e hh => by
          subst e
          obtain ⟨v, H', h1, hst⟩ := doK_ok hc gd cx henv2 hh
          exact hst _ _ fun v' w' F' β' g2 k2 r => opsK_ok hc cx rest _ _ _ _ K out h1 (sim_next (st := ⟨st.env.set d (.one (.bool b')), st.heap, st.roots⟩) gd hd hsz2 henv2 g2 k2 r) hQ
        have skip : ∀ {b' : Bool}, b' = b → opsK C call ops (q - 1) [] rest ⟨put (st.env.set d (.one (.bool b'))) o.dst (.tup []), st.heap, st.roots⟩ K = some out → wpList P ops Q rest (a.put o.dst undef) w := fun {b'} e hh => by
          subst e
          exact opsK_ok hc cx rest _ _ _ _ K out hh (sim_next (st := ⟨st.env.set d (.one (.bool b')), st.heap, st.roots⟩) gd hd hsz2 henv2 gd ⟨fun _ h => h, fun _ _ => rfl, fun _ _ h => h, fun h s hs => ⟨s, hs, like_refl s⟩⟩ rep_skip) hQ
        cases b with
        | true =>
          simp only [] at h
          cases want with
          | true => rw [if_pos (by simp [hwant])]; exact .inl (go rfl h)
          | false => rw [if_neg (by simp [hwant])]; exact skip rfl h
        | false =>
          simp only [] at h
          cases want with
          | true => rw [if_neg (by simp [hwant])]; exact skip rfl h
          | false => rw [if_pos (by simp [hwant])]; exact .inl (go rfl h)

/-! ### New numbers -/
theorem norm_ok {live : List Nat} (h : norm live st = some st') (hs : Sim L w0 F0 X st a w) : Sim L w0 F0 X st' a w := by
  obtain ⟨F, β, gd, hd, hsz, henv⟩ := hs
  unfold norm at h
  simp only [] at h
  split at h
  · rename_i hn
    injection h with h
    subst h
    exact ⟨F, _, good_ren gd hn, ⟨hd.1, all2_map (fun _ _ r => ren1_ok r) hd.2⟩, by simp [keep_len, hsz], keep_at (us := fun i => a.tmps.getD i undef) fun i => henv i⟩
  · simp at h
theorem getD_set {env : List AV} {d t : Nat} {v : AV} : (env.set d v).getD t .undef = v ∧ d = t ∧ d < env.length ∨ (env.set d v).getD t .undef = env.getD t .undef ∨ (env.set d v).getD t .undef = .undef := by
  rw [List.getD_eq_getElem?_getD, List.getElem?_set, List.getD_eq_getElem?_getD]
  by_cases hd : d = t
  · subst hd
    by_cases hl : d < env.length
    · left; simp [hl]
    · right; right; simp [hl]
  · right; left; rw [if_neg hd]
theorem RepPtr.far {h i off : Nat} {v : Value} (hf : β' h = β h ∧ H'[h]? = H[h]?) (r : RepPtr β H h i off v) : RepPtr β' H' h i off v := by
  unfold RepPtr at r ⊢
  rw [hf.2, hf.1]
  exact r
theorem RepP.far {q : PV} {v : Value} (hf : ∀ k ∈ hsP q, β' k = β k ∧ H'[k]? = H[k]?) (r : RepP F w β H q v) : RepP F w β' H' q v := by
  cases q with
  | ptr h i off => exact RepPtr.far (hf h (by simp [hsP])) r
  | _ => exact r
theorem RepPs.far : ∀ {l : List PV} {us : List Value}, (∀ k ∈ l.flatMap hsP, β' k = β k ∧ H'[k]? = H[k]?) → All2 (RepP F w β H) l us → All2 (RepP F w β' H') l us
  | _, _, _, .nil => .nil
  | _, _, hf, .cons r t => .cons (r.far fun k hk => hf k (by simp [hk])) (RepPs.far (fun k hk => hf k (by simp at hk ⊢; exact .inr hk)) t)
theorem RepV.far {c : CV} {v : Value} (hf : ∀ k ∈ hsC c, β' k = β k ∧ H'[k]? = H[k]?) (r : RepV F w β H c v) : RepV F w β' H' c v := by
  cases c with
  | ref h =>
    have := hf h (by simp [hsC])
    simp only [RepV] at r ⊢
    rw [this.2, this.1]
    exact r
  | sub h o l =>
    have := hf h (by simp [hsC])
    simp only [RepV] at r ⊢
    rw [this.2, this.1]
    exact r
  | ptr h i off => exact RepPtr.far (hf h (by simp [hsC])) r
  | fn f x y =>
    obtain ⟨va, vb, h, ha, hb⟩ := r
    exact ⟨va, vb, h, RepPs.far (fun k hk => hf k (by simp [hsC] at hk ⊢; exact .inl hk)) ha, RepPs.far (fun k hk => hf k (by simp [hsC] at hk ⊢; exact .inr hk)) hb⟩
  | _ => exact r
theorem RepVs.far : ∀ {l : List CV} {us : List Value}, (∀ k ∈ l.flatMap hsC, β' k = β k ∧ H'[k]? = H[k]?) → All2 (RepV F w β H) l us → All2 (RepV F w β' H') l us
  | _, _, _, .nil => .nil
  | _, _, hf, .cons r t => .cons (r.far fun k hk => hf k (by simp [hk])) (RepVs.far (fun k hk => hf k (by simp at hk ⊢; exact .inr hk)) t)
theorem RepA.far {c : AV} {v : Value} (hf : ∀ k ∈ hsA c, β' k = β k ∧ H'[k]? = H[k]?) (r : RepA F w β H c v) : RepA F w β' H' c v := by
  cases c with
  | undef => trivial
  | one c => exact RepV.far hf r
  | agg cs =>
    obtain ⟨vs, h, h2⟩ := r
    exact ⟨vs, h, RepVs.far hf h2⟩
  | tup us =>
    obtain ⟨vs, h, h2⟩ := r
    refine ⟨vs, h, ?_⟩
    have key : ∀ {us : List (Bool × List CV)} {ws : List Value}, (∀ k ∈ us.flatMap (fun p => p.2.flatMap hsC), β' k = β k ∧ H'[k]? = H[k]?) → All2 (fun u v => match u with
      | (true, cs) => ∃ ws, v = .agg ws ∧ All2 (RepV F w β H) cs ws.toList
      | (false, cs) => ∃ c, cs = [c] ∧ RepV F w β H c v) us ws → All2 (fun u v => match u with
      | (true, cs) => ∃ ws, v = .agg ws ∧ All2 (RepV F w β' H') cs ws.toList
      | (false, cs) => ∃ c, cs = [c] ∧ RepV F w β' H' c v) us ws := by
      intro us ws hf h
      induction h with
      | nil => exact .nil
      | @cons u v l m r t ih =>
        refine .cons ?_ (ih fun k hk => hf k (by simp at hk ⊢; exact .inr hk))
        rcases u with ⟨b, cs⟩
        cases b with
        | true =>
          obtain ⟨ws, e, r⟩ := r
          exact ⟨ws, e, RepVs.far (fun k hk => hf k (by simp at hk ⊢; exact .inl hk)) r⟩
        | false =>
          obtain ⟨c, e, r⟩ := r
          subst e
          exact ⟨c, rfl, RepV.far (fun k hk => hf k (by simp [hk])) r⟩
    exact key hf h2
theorem reown_ok {t : Nat} (h : reown t st = some st') (hs : Sim L w0 F0 X st a w) : Sim L w0 F0 X st' a w := by
  have hs0 := hs
  obtain ⟨F, β, gd, hd, hsz, henv⟩ := hs
  unfold reown at h
  split at h
  case h_3 => simp at h
  case h_2 => injection h with h; subst h; exact hs0
  rename_i hh o' l he
  split at h
  case h_2 => simp at h
  rename_i e T xs hr
  split at h
  case h_2 => simp at h
  rename_i hc
  injection h with h
  subst h
  simp only [Bool.and_eq_true, Bool.not_eq_true', List.all_eq_true] at hc
  obtain ⟨hmp, hno, hroots⟩ := hc
  have hH := slotAt_row hr (by simp)
  have hhl := (List.getElem?_eq_some_iff.1 hH).1
  have rt := henv t
  rw [he] at rt
  simp only [RepA, RepV, hH] at rt
  obtain ⟨⟨_, hle⟩, A, c, hv, hlc, hin, hcap⟩ := rt
  have hcap := hcap trivial
  have hlen : ((xs.drop o').take l).length = l := by rw [List.length_take, List.length_drop]; omega
  have own : SlotOk (Bs L w0) F w β st.heap (.row true e T ((xs.drop o').take l)) (a.tmps.getD t undef) ∧ ∀ g, blk (a.tmps.getD t undef) = some g → ∃ u0, β hh = some u0 ∧ blk u0 = some g := by
    rcases hcap with ⟨h0, hA, hc0⟩ | ⟨g, p, q, n, k, hb, hA, hq, hck⟩
    · subst h0 hA hc0
      rw [hv]
      exact ⟨⟨⟨[], (owns_sl hmp).2 ⟨by simp, .inl ⟨rfl, by simp⟩⟩, by simp, fun i x h => by simp at h⟩, fun g h => by simp [blk] at h⟩, fun g h => by simp [blk] at h⟩
    · obtain ⟨⟨cells, ho, hrow⟩, hB⟩ := gd.slot hb hH
      rw [owns_sl hmp] at ho
      obtain ⟨hcl, ⟨e0, _⟩ | ⟨g', o2, cap, cur, e0, hcur, hncap, hmax, hfit, htake⟩⟩ := ho
      · simp at e0
      simp at e0
      obtain ⟨⟨rfl, rfl⟩, rfl, rfl⟩ := e0
      rw [hv, hA]
      refine ⟨⟨⟨(cells.drop (o' * T.size)).take (l * T.size), (owns_sl hmp).2 ⟨by rw [← (hrow.sub o' l).1], .inr ⟨g, q, c, cur, by rw [hlen], hcur, by rw [hlen]; exact hlc, Nat.le_trans hck hmax, by omega, ?_⟩⟩, hrow.sub o' l⟩, fun g2 h => ?_⟩, fun g2 h => ⟨_, hb, by simp [blk] at h ⊢; exact h⟩⟩
      · rw [hlen]
        rcases hin with h0 | ⟨g3, p3, n3, k3, hb3, hA3⟩
        · subst h0; simp
        · rw [hb] at hb3
          simp at hb3
          obtain ⟨⟨rfl, rfl⟩, rfl, rfl⟩ := hb3
          rw [hA] at hA3
          simp at hA3
          rw [← htake, hA3, List.drop_take, List.take_take, List.drop_drop, Nat.min_eq_left]
          rw [← Nat.sub_mul]
          exact Nat.mul_le_mul_right _ (by omega)
      · simp [blk] at h
        subst h
        exact hB g (by simp [blk])
  have hfar : ∀ k, k ≠ hh → (fun k => if k = hh then some (a.tmps.getD t undef) else β k) k = β k ∧ (st.heap.set hh (.row true e T ((xs.drop o').take l)))[k]? = st.heap[k]? := fun k hk => ⟨by simp [hk], set_ne hk⟩
  have hone : (a.tmps.getD t undef).oneCell' = true := by rw [hv]; rfl
  refine ⟨F, fun k => if k = hh then some (a.tmps.getD t undef) else β k, ⟨gd.below, gd.fsz, gd.f0, gd.f1, fun k u hu => ?_, fun k k' s s' u u' g h1 h2 l1 l2 b1 b2 g1 g2 => ?_⟩, ⟨hd.1, ?_⟩, by simp [hsz], fun t' => ?_⟩
  · by_cases hk : k = hh
    · subst hk
      simp only [if_true, Option.some.injEq] at hu
      subst hu
      exact ⟨_, set_at hH, own.1.1, own.1.2⟩
    · simp only [if_neg hk] at hu
      obtain ⟨s, hs1, hs2⟩ := gd.dom k u hu
      refine ⟨s, by rw [set_ne hk]; exact hs1, ?_⟩
      cases s with
      | dead => trivial
      | iter => exact hs2
      | row lv e2 t2 xs2 =>
        cases lv with
        | true => exact ⟨hs2.1, hs2.2⟩
        | false => exact hs2
      | box t2 cs2 =>
        obtain ⟨g, arr, e3, x1, x2, x3, x4, x5⟩ := hs2
        refine ⟨g, arr, e3, x1, x2, x3, ?_, x5⟩
        refine RepVs.far (fun k' hk' => hfar k' fun e => ?_) x4
        subst e
        have := hno _ (List.mem_of_getElem? hs1)
        simp only [noRef, Bool.not_eq_true', List.contains_eq_mem, decide_eq_false_iff_not] at this
        exact this hk'
  · have old : ∀ {k : Nat} {s : Slot} {u : Value}, (st.heap.set hh (.row true e T ((xs.drop o').take l)))[k]? = some s → s.isLive = true → (if k = hh then some (a.tmps.getD t undef) else β k) = some u → blk u = some g → ∃ s0 u0, st.heap[k]? = some s0 ∧ s0.isLive = true ∧ β k = some u0 ∧ blk u0 = some g := fun {k s u} h1 l1 b1 g1 => by
      by_cases hk : k = hh
      · subst hk
        simp only [if_true, Option.some.injEq] at b1
        subst b1
        obtain ⟨u0, x1, x2⟩ := own.2 g g1
        exact ⟨_, u0, hH, rfl, x1, x2⟩
      · rw [set_ne hk] at h1
        simp only [if_neg hk] at b1
        exact ⟨s, u, h1, l1, b1, g1⟩
    obtain ⟨s0, u0, x1, x2, x3, x4⟩ := old h1 l1 b1 g1
    obtain ⟨s1, u1, y1, y2, y3, y4⟩ := old h2 l2 b2 g2
    exact gd.sep k k' s0 s1 u0 u1 g x1 y1 x2 y2 x3 y3 x4 y4
  · refine RepVs.far (fun k hk => hfar k fun e => ?_) hd.2
    subst e
    rw [List.contains_eq_mem, decide_eq_false_iff_not] at hroots
    exact hroots hk
  · have htl : t < st.env.length := by
      unfold envAt at he
      rw [List.getD_eq_getElem?_getD] at he
      cases hx : st.env[t]? with
      | none => rw [hx] at he; simp at he
      | some y => exact (List.getElem?_eq_some_iff.1 hx).1
    simp only [envAt, List.getD_eq_getElem?_getD]
    by_cases ht : t = t'
    · subst ht
      rw [List.getElem?_set_self (by simpa using htl)]
      simp only [Option.getD_some, RepA, RepV, set_at hH]
      exact ⟨by simp, hone⟩
    · rw [List.getElem?_set_ne ht, List.getElem?_map]
      have r := henv t'
      simp only [envAt, List.getD_eq_getElem?_getD] at r
      cases hx : st.env[t']? with
      | none => trivial
      | some y =>
        rw [hx] at r
        simp only [Option.map_some, Option.getD_some, dropH] at r ⊢
        split
        · trivial
        · rename_i hnc
          refine RepA.far (fun k hk => hfar k fun e => ?_) r
          subst e
          exact hnc (by simpa using hk)
theorem frzAt_ok {z : Nat × Nat} (h : frzAt z st = some st') (hs : Sim L w0 F0 X st a w) : Sim L w0 F0 X st' a w := by
  have hs0 := hs
  obtain ⟨F, β, gd, hd, hsz, henv⟩ := hs
  unfold frzAt at h
  split at h
  · exact reown_ok h hs0
  split at h
  · rename_i hh i off he
    split at h
    · rename_i t cs hb
      split at h
      · rename_i c hc
        simp only [Option.bind_eq_some_iff] at h
        obtain ⟨p, h1, h2⟩ := h
        split at h2
        · rename_i t2 cs2 hb2
          injection h2 with h2
          subst h2
          have hH := slotAt_row hb (by simp)
          have hH2 := slotAt_row hb2 (by simp)
          cases hbd : β hh with
          | none =>
            -- the variable can't be there
            have r := henv z.1
            rw [he] at r
            simp only [RepA, RepV, RepPtr, hH] at r
            obtain ⟨_, g, hg, _⟩ := r
            rw [hbd] at hg; simp at hg
          | some u =>
            obtain ⟨g, arr, e, hu, hbase, harr, hall, hnF⟩ := gd.slot hbd hH
            obtain ⟨uc, huc, rc⟩ := hall.get hc
            obtain ⟨F1, g1, k1, r1⟩ := frz1_ok (c' := p.1) (H' := p.2) gd rc h1
            obtain ⟨g', arr', e', hu', hbase', harr', hall', hnF'⟩ := g1.slot hbd hH2
            rw [hu] at hu'
            simp at hu'
            subst hu'
            rw [harr] at harr'
            injection harr' with harr'
            injection harr' with harr' _ _
            subst harr'
            have hall1 := hall.mono fun _ _ => RepV.mono k1
            obtain ⟨g2, k2⟩ := good_write (w' := w) (s' := .box t (cs.set z.2 p.1)) g1 hH2 rfl hbd (by rw [hu]; rfl) trivial (Below.refl _ _) rfl (fun _ _ => rfl) fun kp => ⟨g, arr, e, hu, hbase, harr, by
              have := (hall1.set r1 z.2)
              rw [show arr.toList.set z.2 uc = arr.toList from by
                obtain ⟨x1, x2⟩ := List.getElem?_eq_some_iff.1 huc
                rw [← x2]; exact List.set_getElem_self x1] at this
              exact this.mono fun _ _ => RepV.mono kp, hnF'⟩
            exact ⟨F1, β, g2, ⟨hd.1, hd.2.mono fun _ _ => RepV.mono (k1.trans k2)⟩, hsz, fun t => (henv t).mono (k1.trans k2)⟩
        · simp at h2
      · simp at h
    · simp at h
  · rename_i c hne he
    simp only [Option.map_eq_some_iff] at h
    obtain ⟨p, h1, h2⟩ := h
    subst h2
    have r := henv z.1
    rw [he] at r
    obtain ⟨F1, g1, k1, r1⟩ := frz1_ok (c' := p.1) (H' := p.2) gd r h1
    refine ⟨F1, β, g1, ⟨hd.1, hd.2.mono fun _ _ => RepV.mono k1⟩, by simpa using hsz, fun t => ?_⟩
    simp only [envAt]
    rcases getD_set (env := st.env) (d := z.1) (t := t) (v := .one p.1) with ⟨e, rfl, _⟩ | e | e
    · rw [e]; exact r1
    · rw [e]; exact (henv t).mono k1
    · rw [e]; trivial
  · rename_i cs he
    split at h
    · rename_i c hc
      simp only [Option.map_eq_some_iff] at h
      obtain ⟨p, h1, h2⟩ := h
      subst h2
      have r := henv z.1
      rw [he] at r
      obtain ⟨vs, hv, hall⟩ := r
      obtain ⟨uc, huc, rc⟩ := hall.get hc
      obtain ⟨F1, g1, k1, r1⟩ := frz1_ok (c' := p.1) (H' := p.2) gd rc h1
      refine ⟨F1, β, g1, ⟨hd.1, hd.2.mono fun _ _ => RepV.mono k1⟩, by simpa using hsz, fun t => ?_⟩
      simp only [envAt]
      rcases getD_set (env := st.env) (d := z.1) (t := t) (v := .agg (cs.set z.2 p.1)) with ⟨e, rfl, _⟩ | e | e
      · rw [e]
        refine ⟨vs, hv, ?_⟩
        have := ((hall.mono fun _ _ => RepV.mono k1).set r1 z.2)
        rwa [show vs.toList.set z.2 uc = vs.toList from by
          obtain ⟨x1, x2⟩ := List.getElem?_eq_some_iff.1 huc
          rw [← x2]; exact List.set_getElem_self x1] at this
      · rw [e]; exact (henv t).mono k1
      · rw [e]; trivial
    · simp at h
  · simp at h
theorem frzAll_ok : ∀ {z : List (Nat × Nat)} {st : St}, frzAll z st = some st' → Sim L w0 F0 X st a w → Sim L w0 F0 X st' a w
  | [], st, h, hs => by simp [frzAll] at h; subst h; exact hs
  | z :: r, st, h, hs => by
    simp only [frzAll] at h
    split at h
    · rename_i s h1; exact frzAll_ok h (frzAt_ok h1 hs)
    · simp at h
theorem prep_ok {z : List (Nat × Nat)} {live : List Nat} (h : prep z live st = some st') (hs : Sim L w0 F0 X st a w) : Sim L w0 F0 X st' a w := by
  unfold prep at h
  split at h
  · rename_i s h1; exact norm_ok h (frzAll_ok h1 hs)
  · simp at h
end
end Go.Proofs.Ytanpdkllnmeenaa.Am

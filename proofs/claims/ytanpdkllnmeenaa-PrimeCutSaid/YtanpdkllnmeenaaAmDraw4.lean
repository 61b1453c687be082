/- Regions that draw their order: the quiet part. -/
import Derived.Test.YtanpdkllnmeenaaAmDraw3
namespace Go.Proofs.Ytanpdkllnmeenaa.Am
open Go Go.RowKit
set_option linter.unusedVariables false
set_option linter.unusedSectionVars false
set_option linter.unusedSimpArgs false
section
variable {P : Program} {C : Ctx} {F F' F1 F'' : Nat → Prop} {w w' : World} {β β' β0 : Bd} {H H' H1 G H0 : Heap}
variable {LN : Nat → Prop} {X : List Value} {w0 : World} {F0 : Nat → Prop} {n : Nat} {sl : List Slot} {env : List AV} {a : Act} {o : Oper} {v : AV} {base : Nat → Prop} {D : Nat → Prop} {st st' : St}
section trace
variable {ops : Array Oper} {l : List Oper} {q : Nat} {V : Nat → AV} {S : Nat → List Slot} {E : Nat → List AV} {HH : Nat → Heap} {lt : List Bool} (tr : QT P C ops l env H q lt V S E HH) (hq : q ≤ l.length)
include tr hq
theorem tr_op {i : Nat} (hi : i < q) : ∃ o, l[i]? = some o := ⟨_, List.getElem?_eq_getElem (by omega)⟩
theorem tr_pre : ∀ {i j : Nat}, i ≤ j → j ≤ q → ∃ r, HH j = HH i ++ r := by
  intro i j hij hj
  induction j with
  | zero => exact ⟨[], by rw [show i = 0 by omega]; simp⟩
  | succ j ih =>
    by_cases e : i = j + 1
    · subst e; exact ⟨[], by simp⟩
    · obtain ⟨r, h⟩ := ih (by omega) (by omega)
      obtain ⟨o, ho⟩ := tr_op tr hq (show j < q by omega)
      exact ⟨r ++ S j, by rw [(tr.step j o (by omega) ho).2.1, h, List.append_assoc]⟩
theorem tr_slot {i : Nat} (hi : i < q) {j : Nat} {s : Slot} (hs : (S i)[j]? = some s) : (HH q)[(HH i).length + j]? = some s := by
  obtain ⟨o, ho⟩ := tr_op tr hq hi
  obtain ⟨r, h⟩ := tr_pre tr hq (show i + 1 ≤ q by omega) (Nat.le_refl _)
  rw [h, (tr.step i o hi ho).2.1, List.append_assoc, List.getElem?_append_right (by omega), Nat.add_sub_cancel_left, List.getElem?_append_left (List.getElem?_eq_some_iff.1 hs).1]
  exact hs
theorem tr_sub {i : Nat} (hi : i ≤ q) : Sub (HH i) (HH q) := by
  intro h s hs _
  obtain ⟨r, e⟩ := tr_pre tr hq hi (Nat.le_refl _)
  rw [e, List.getElem?_append_left (List.getElem?_eq_some_iff.1 hs).1]
  exact hs
theorem tr_len {i j : Nat} (hij : i < j) (hj : j ≤ q) : (HH i).length + (S i).length ≤ (HH j).length := by
  obtain ⟨o, ho⟩ := tr_op tr hq (show i < q by omega)
  obtain ⟨r, h⟩ := tr_pre tr hq (show i + 1 ≤ j by omega) hj
  rw [h, (tr.step i o (by omega) ho).2.1, List.length_append, List.length_append]
  omega
theorem tr_envlen {i : Nat} (hi : i ≤ q) : (E i).length = env.length := by
  induction i with
  | zero => rw [tr.e0]
  | succ i ih =>
    obtain ⟨o, ho⟩ := tr_op tr hq (show i < q by omega)
    rw [(tr.step i o (by omega) ho).1, ← ih (by omega)]
    cases o.dst <;> simp [put]
theorem tr_env {len : Nat} (hlen : env.length = len) (hdst : ∀ (i : Nat) (o : Oper) (t : Nat), l[i]? = some o → o.dst = some t → t < len) : ∀ {i : Nat}, i ≤ q → ∀ t, (∃ (j : Nat) (o : Oper), j < i ∧ l[j]? = some o ∧ o.dst = some t ∧ envAt (E i) t = V j) ∨ ((∀ (j : Nat) (o : Oper), j < i → l[j]? = some o → o.dst ≠ some t) ∧ envAt (E i) t = envAt env t) := by
  intro i
  induction i with
  | zero => intro _ t; right; exact ⟨fun j o hj => by omega, by rw [tr.e0]⟩
  | succ i ih =>
    intro hi t
    obtain ⟨o, ho⟩ := tr_op tr hq (show i < q by omega)
    have he := (tr.step i o (by omega) ho).1
    by_cases hd : o.dst = some t
    · left
      refine ⟨i, o, by omega, ho, hd, ?_⟩
      have ht := hdst i o t ho hd
      have hl := tr_envlen tr hq (show i ≤ q by omega)
      rw [he, hd]
      simp only [envAt, put, List.getD_eq_getElem?_getD]
      rw [List.getElem?_set_self (by omega)]
      rfl
    · have hsame : envAt (E (i + 1)) t = envAt (E i) t := by
        rw [he]
        cases hdo : o.dst with
        | none => rfl
        | some d =>
          simp only [envAt, put, List.getD_eq_getElem?_getD]
          rw [List.getElem?_set_ne (fun e => hd (by rw [hdo, e]))]
      rcases ih (by omega) t with ⟨j, o', hj, ho', hd', hv⟩ | ⟨hno, hv⟩
      · exact .inl ⟨j, o', by omega, ho', hd', by rw [hsame, hv]⟩
      · right
        refine ⟨fun j o' hj ho' => ?_, by rw [hsame, hv]⟩
        by_cases e : j = i
        · subst e; rw [ho] at ho'; injection ho' with ho'; rw [← ho']; exact hd
        · exact hno j o' (by omega) ho'
end trace
/-- The state while quiet operations come. -/
def P1 (LN : Nat → Prop) (X : List Value) (rts : List CV) (w0 : World) (F0 : Nat → Prop) (l : List Oper) (env : List AV) (H : Heap) (len q : Nat) (V : Nat → AV) (S : Nat → List Slot) (HH : Nat → Heap) (L : Nat → Prop) (a : Act) (w : World) : Prop :=
  ∃ F β, Good LN w0 w F0 F β (HH q) ∧ (a.defers = [] ∧ All2 (RepV F w β (HH q)) rts X) ∧ a.tmps.size = len ∧
    (∀ h, β h ≠ none → h < H.length ∨ ∃ i, i < q ∧ L i ∧ (HH i).length ≤ h ∧ h < (HH i).length + (S i).length) ∧
    (∀ t, (∀ i o, i < q → L i → l[i]? = some o → o.dst ≠ some t) → RepA F w β (HH q) (envAt env t) (a.tmps.getD t undef)) ∧
    (∀ i o t, i < q → L i → l[i]? = some o → o.dst = some t → RepA F w β (HH q) (V i) (a.tmps.getD t undef))
theorem put_get {a : Act} {d : Option Tmp} {u : Value} {t : Nat} (h : d ≠ some t) : (a.put d u).tmps.getD t undef = a.tmps.getD t undef := by
  cases d with
  | none => rfl
  | some d =>
    have : d ≠ t := fun e => h (by rw [e])
    simp [Act.put, Array.getElem?_setIfInBounds_ne this]
theorem put_self {a : Act} {d : Nat} {u : Value} (h : d < a.tmps.size) : (a.put (some d) u).tmps.getD d undef = u := by simp [Act.put, h]
/-! ### The rest, and what comes late -/
theorem wp_swap {o : Oper} {a b : Act} {w : World} {N N' : Act → World → Prop} {Q : Exit → Act → World → Prop} {R : Act → Act → Prop} (hop : execOp a.eval o = execOp b.eval o) (hput : ∀ v, R (a.put o.dst v) (b.put o.dst v)) (hdef : ∀ d, R ({ a with defers := d :: a.defers }.put o.dst undef) ({ b with defers := d :: b.defers }.put o.dst undef))
    (hN : ∀ a' b' w', R a' b' → N b' w' → N' a' w') (h : o.wp P b w N (fun _ _ _ => False)) : o.wp P a w N' Q := by
  unfold Oper.wp at *
  rw [hop]
  generalize (execOp b.eval o).run P w = r at *
  cases r with
  | ok n w' =>
    cases n <;> simp only [Oper.upon] at h ⊢ <;>
      first
        | exact hN _ _ _ (hput _) h
        | exact hN _ _ _ (hdef _) h
        | exact Calls.mono h (fun e w'' he => by
            cases e <;> first
              | exact hN _ _ _ (hput _) he
              | exact he.elim
              | (obtain ⟨_, _, h⟩ := he; exact h.elim))
        | exact Rows.mono h (fun _ _ he => hN _ _ _ (hput _) he)
        | exact h.elim
  | halt x w' => cases x <;> simp only [Oper.upon] at h ⊢ <;> first | exact h.elim | exact h
/-- One that may come late, run. -/
theorem late_run (cx : CtxOk P C) {F : Nat → Prop} {β : Bd} (gd : Good LN w0 w F0 F β G) (hE : ∀ x ∈ o.op.operands, OpOk F w β G env a x) (hq : opQ C env [] 0 o = some (true, v, [])) : ∃ v', (execOp a.eval o).run P w = .ok (.value v') w ∧ RepA F w β G v v' := by
  have pre : Pre LN w0 w F0 F β [] G 0 [] := ⟨gd, fun h s hs => by simp at hs, fun j s hs => by simp at hs⟩
  obtain ⟨v', w', us, hr, hl, ⟨_, hw⟩, _, hall⟩ := opQ_ok pre hE cx hq
  have := hw rfl
  subst this
  exact ⟨v', hr, (hall β (fun _ _ h => h) (fun j u hj => by have := List.length_eq_zero_iff.1 hl; subst this; simp at hj)).2⟩
theorem put_at' {a : Act} {d t : Nat} {u : Value} : (a.put (some d) u).tmps.getD t undef = if d = t ∧ d < a.tmps.size then u else a.tmps.getD t undef := by
  simp only [Act.put, Array.getD_eq_getD_getElem?, Array.getElem?_setIfInBounds]
  by_cases h : d = t
  · subst h
    by_cases hs : d < a.tmps.size
    · simp [hs]
    · simp [hs]
  · simp [h]
/-- Alike, but for what is to come late. -/
structure Agree (ops : Array Oper) (lt : List Bool) (Ls : Nat → Prop) (a b : Act) : Prop where
  defers : a.defers = b.defers
  size : a.tmps.size = b.tmps.size
  at_ : ∀ t, (∀ j o, lt.getD j false = true → ¬ Ls j → ops.toList[j]? = some o → o.dst ≠ some t) → a.tmps.getD t undef = b.tmps.getD t undef
theorem Agree.put {ops : Array Oper} {lt : List Bool} {Ls : Nat → Prop} {a b : Act} (h : Agree ops lt Ls a b) (d : Option Tmp) (u : Value) : Agree ops lt Ls (a.put d u) (b.put d u) := by
  cases d with
  | none => exact h
  | some d =>
    refine ⟨h.defers, by simp [Act.put, h.size], fun t ht => ?_⟩
    rw [put_at', put_at', h.size, h.at_ t ht]
def Envs (ops : Array Oper) (lt : List Bool) (E : Nat → List AV) (V : Nat → AV) (env : List AV) : Prop :=
  ∀ j o, lt.getD j false = true → ops.toList[j]? = some o → (∀ u ∈ o.looksAt ops, envAt env u = envAt (E j) u) ∧ ∀ t, o.dst = some t → envAt env t = V j
def P3 (LN : Nat → Prop) (X : List Value) (w0 : World) (F0 : Nat → Prop) (ops : Array Oper) (lt : List Bool) (E : Nat → List AV) (V : Nat → AV) (st : St) (Ls : Nat → Prop) (a : Act) (w : World) : Prop :=
  ∃ b, Sim LN w0 F0 X st b w ∧ Agree ops lt Ls a b ∧ Envs ops lt E V st.env
section rest
variable {R : Type} {call : CallK R} {ops : Array Oper} {len q : Nat} {lt : List Bool} {Q : Exit → Act → World → Prop} {K : St → Option R} {out : R}
variable {V : Nat → AV} {S : Nat → List Slot} {E : Nat → List AV} {HH : Nat → Heap}
variable (hc : CallS P call) (cx : CtxOk P C) (dk : DrawOk ops len q lt) (hQ : ∀ st' a' w', K st' = some out → Sim LN w0 F0 X st' a' w' → Q .normal a' w')
variable (hV : ∀ j o, lt.getD j false = true → ops.toList[j]? = some o → opQ C (E j) [] 0 o = some (true, V j, []))
include hc cx dk hV
theorem late_exec {Ls : Nat → Prop} {i : Nat} {o : Oper} (hli : lt.getD i false = true) (ho : ops.toList[i]? = some o) (hnl : ¬ Ls i) (hdc : ∀ i o, ops.toList[i]? = some o → Ls i → ∀ j ∈ edges o, Ls j) (he : ∀ j ∈ edges o, Ls j) (h : P3 LN X w0 F0 ops lt E V st Ls a w) :
    ∃ v', (execOp a.eval o).run P w = .ok (.value v') w ∧ P3 LN X w0 F0 ops lt E V st (fun j => j = i ∨ Ls j) (a.put o.dst v') w := by
  obtain ⟨b, ⟨F, β, gd, hd, hsz, henv⟩, hag, henvs⟩ := h
  obtain ⟨hgd, t, hdt, hown, hearly, hrest⟩ := dk.late i o hli ho
  have hbits := bit_mem dk.lt hdc i o ho he
  have hiq : i < q := by rw [← dk.len_]; exact late_lt hli
  have hlook : ∀ u ∈ o.looksAt ops, RepA F w β st.heap (envAt (E i) u) (a.tmps.getD u undef) := fun u hu => by
    rw [← (henvs i o hli ho).1 u hu, hag.at_ u fun j oj hlj hnj hoj hdj => ?_]
    · exact henv u
    · by_cases hij : j = i
      · subst hij
        rw [ho] at hoj
        injection hoj with hoj
        subst hoj
        rw [hdt] at hdj
        injection hdj with hdj
        subst hdj
        exact hown hu
      · have hjq : j < q := by rw [← dk.len_]; exact late_lt hlj
        exact hnj (hbits j (hearly j oj u hjq hij hoj hdj hu))
  obtain ⟨v', hr, rv⟩ := late_run cx gd (fun x hx => opr_ok x fun u e => hlook u (by
      subst e
      unfold Oper.looksAt
      refine List.mem_append.2 (.inl ?_)
      exact List.mem_filterMap.2 ⟨_, by simpa using hx, rfl⟩)) (hV i o hli ho)
  refine ⟨v', hr, b.put o.dst v', ⟨F, β, gd, ⟨by rw [hdt]; exact hd.1, hd.2⟩, by rw [hdt]; simp [Act.put, hsz], fun u => ?_⟩, ?_, henvs⟩
  · rw [hdt, put_at']
    split
    · rename_i hx
      rw [← hx.1, (henvs i o hli ho).2 t hdt]
      exact rv
    · exact henv u
  · rw [hdt]
    refine ⟨hag.defers, by simp [Act.put, hag.size], fun u hu => ?_⟩
    rw [put_at', put_at', hag.size]
    split
    · rfl
    · rename_i hx
      by_cases htu : t = u
      · have hb : ¬ t < b.tmps.size := fun h => hx ⟨htu, h⟩
        subst htu
        have ha : ¬ t < a.tmps.size := by rw [hag.size]; exact hb
        simp [Array.getD_eq_getD_getElem?, ha, hb]
      · refine hag.at_ u fun j oj hlj hnj hoj => ?_
        by_cases hij : j = i
        · subst hij
          rw [ho] at hoj
          injection hoj with hoj
          subst hoj
          rw [hdt]
          exact fun e => htu (by injection e)
        · exact hu j oj hlj (fun h => h.elim hij hnj) hoj
theorem rest_one {Ls : Nat → Prop} {i : Nat} {o : Oper} {rest : List Oper} (hiq : q ≤ i) (ho : ops.toList[i]? = some o) (hdc : ∀ i o, ops.toList[i]? = some o → Ls i → ∀ j ∈ edges o, Ls j) (he : ∀ j ∈ edges o, Ls j) (h : opsK C call ops 0 [] (o :: rest) st K = some out) (hp : P3 LN X w0 F0 ops lt E V st Ls a w) {N : Act → World → Prop}
    (hN : ∀ st' a' w', opsK C call ops 0 [] rest st' K = some out → P3 LN X w0 F0 ops lt E V st' Ls a' w' → N a' w') : if Region.wanted o (yielded ops a.tmps) then o.wp P a w N Q ∨ (o.asks P a w ∧ LetsOut Q) else N (a.put o.dst undef) w := by
  obtain ⟨b, hs, hag, henvs⟩ := hp
  have hbits := bit_mem dk.lt hdc i o ho he
  have hsame : ∀ u ∈ o.looksAt ops, a.tmps.getD u undef = b.tmps.getD u undef := fun u hu => hag.at_ u fun j oj hlj hnj hoj hdj => by
    obtain ⟨_, t, hdt, _, _, hrest⟩ := dk.late j oj hlj hoj
    rw [hdt] at hdj
    injection hdj with hdj
    subst hdj
    exact hnj (hbits j ((hrest i o hiq ho).2.1 hu))
  have hy : Region.wanted o (yielded ops a.tmps) = Region.wanted o (yielded ops b.tmps) := by
    unfold Region.wanted
    cases hg : o.guard with
    | none => rfl
    | some p =>
      obtain ⟨j, want⟩ := p
      simp only []
      have : yielded ops a.tmps j = yielded ops b.tmps j := by
        unfold yielded
        cases hd : (ops[j]?).bind (·.dst) with
        | none => rfl
        | some d =>
          simp only [Option.bind_some]
          have h1 := hsame d (by unfold Oper.looksAt; refine List.mem_append.2 (.inr ?_); rw [hg]; simp [hd])
          have hsz := hag.size
          rw [Array.getD_eq_getD_getElem?, Array.getD_eq_getD_getElem?] at h1
          by_cases hl : d < a.tmps.size
          · have hl' : d < b.tmps.size := hsz ▸ hl
            simp [hl, hl'] at h1 ⊢
            rw [h1]
          · have hl' : ¬ d < b.tmps.size := hsz ▸ hl
            simp [hl, hl']
      rw [this]
  have hst := opsK_step (N := fun b' w' => ∀ a', Agree ops lt Ls a' b' → N a' w') (Q := fun _ _ _ => False) hc cx h hs fun st' b' w' h' ⟨v, hv⟩ hs' a' hag' => hN st' a' w' h' ⟨b', hs', hag', fun j oj hlj hoj => by
    obtain ⟨_, t, hdt, _, _, hrest⟩ := dk.late j oj hlj hoj
    obtain ⟨r1, _, r3⟩ := hrest i o hiq ho
    have hput : ∀ u, o.dst ≠ some u → envAt st'.env u = envAt st.env u := fun u hu => by
      rw [hv]
      cases hd : o.dst with
      | none => rfl
      | some d =>
        simp only [put, envAt, List.getD_eq_getElem?_getD]
        rw [List.getElem?_set_ne (fun e => hu (by rw [hd, e]))]
    exact ⟨fun u hu => by rw [hput u (fun e => r3 u e hu)]; exact (henvs j oj hlj hoj).1 u hu, fun t' ht' => by rw [hdt] at ht'; injection ht' with ht'; subst ht'; rw [hput t r1]; exact (henvs j oj hlj hoj).2 t hdt⟩⟩
  rw [hy]
  split
  · rename_i hw
    rw [if_pos hw] at hst
    rcases hst with hst | ⟨_, _, _, hst⟩
    · left
      have hsel : ∀ cs bl, o.op ≠ .select cs bl := fun cs bl e => by
        unfold Oper.wp at hst
        simp only [execOp, e, Sem.run_bind] at hst
        generalize (Array.mapM (m := Sem) _ cs).run P w = r at hst
        cases r with
        | ok x w' => simp [Result.andThen, Oper.upon] at hst
        | halt x w' => cases x <;> simp [Result.andThen, Oper.upon] at hst
      have hop : execOp a.eval o = execOp b.eval o := execOp_congr o hsel fun x hx => by
        cases x with
        | tmp t => exact hsame t (by unfold Oper.looksAt; refine List.mem_append.2 (.inl ?_); exact List.mem_filterMap.2 ⟨_, by simpa using hx, rfl⟩)
        | _ => rfl
      exact wp_swap (R := Agree ops lt Ls) hop (fun v => hag.put _ _) (fun d => Agree.put (a := { a with defers := d :: a.defers }) (b := { b with defers := d :: b.defers }) ⟨by simp [hag.defers], hag.size, hag.at_⟩ _ _) (fun a' b' w' hr hn => hn a' hr) hst
    · exact hst.elim
  · rename_i hw
    rw [if_neg hw] at hst
    exact hst _ (hag.put _ _)
include hQ
/-- Behind the quiet ones. -/
theorem rest_ok : ∀ (fuel k : Nat) (listed : Array Bool) (st : St) (a : Act) (w : World), listed.size = ops.size → (∀ i o, ops.toList[i]? = some o → Lst listed i → ∀ j ∈ edges o, Lst listed j) → (∀ i, q ≤ i → (Lst listed i ↔ i < k)) → (∀ i, i < q → Lst listed i ∨ lt.getD i false = true) → q ≤ k → k ≤ ops.size → cnt ops.size listed ≤ fuel → opsK C call ops 0 [] (ops.toList.drop k) st K = some out → P3 LN X w0 F0 ops lt E V st (Lst listed) a w → wpAny P .any ops Q fuel listed a w := by
  intro fuel
  have fin : ∀ (k : Nat) (listed : Array Bool) (st : St) (a : Act) (w : World), listed.size = ops.size → (∀ i, q ≤ i → (Lst listed i ↔ i < k)) → q ≤ k → k ≤ ops.size → opsK C call ops 0 [] (ops.toList.drop k) st K = some out → P3 LN X w0 F0 ops lt E V st (Lst listed) a w → (∀ i, i < ops.size → Lst listed i) → Q .normal a w := by
    intro k listed st a w hsz hL hqk hk h hp hall
    have hkn : k = ops.size := by
      rcases Nat.lt_or_ge k ops.size with hlt | hge
      · have := (hL k hqk).1 (hall k hlt); omega
      · omega
    rw [List.drop_of_length_le (by simp; omega)] at h
    simp only [opsK] at h
    obtain ⟨b, hs, hag, _⟩ := hp
    have hab : a = b := by
      have ht : a.tmps = b.tmps := by
        apply Array.ext hag.size
        intro i h1 h2
        have := hag.at_ i fun j o hlj hnj ho => absurd (hall j (by have := (List.getElem?_eq_some_iff.1 ho).1; simpa using this)) hnj
        simpa [Array.getD_eq_getD_getElem?, h1, h2] using this
      have hd := hag.defers
      cases a; cases b
      simp only at ht hd
      subst ht hd
      rfl
    subst hab
    exact hQ st a w h hs
  have none_left : ∀ (listed : Array Bool), listed.size = ops.size → Region.ready .any ops listed = [] → ∀ i, i < ops.size → Lst listed i := by
    intro listed hsz hr i
    induction i using Nat.strongRecOn with
    | _ i ih =>
      intro hi
      refine Classical.byContradiction fun hl => ?_
      have hko : i < ops.toList.length := by simpa using hi
      have := (ready_iff (i := i) hsz).2 ⟨_, List.getElem?_eq_getElem hko, hl, fun j hj => ih j (dk.lt i _ (List.getElem?_eq_getElem hko) j hj) (by have := dk.lt i _ (List.getElem?_eq_getElem hko) j hj; omega)⟩
      rw [hr] at this
      simp at this
  induction fuel with
  | zero =>
    intro k listed st a w hsz hdc hL hlate hqk hk hf h hp
    have hall : ∀ i, i < ops.size → Lst listed i := fun i hi => Classical.byContradiction fun hl => by have := cnt_pos (n := ops.size) hi hl; omega
    refine ⟨?_, fin k listed st a w hsz hL hqk hk h hp hall⟩
    rw [List.eq_nil_iff_forall_not_mem]
    intro i hi
    obtain ⟨o, ho, hl, _⟩ := (ready_iff hsz).1 hi
    have := (List.getElem?_eq_some_iff.1 ho).1
    exact hl (hall i (by simpa using this))
  | succ fuel ih =>
    intro k listed st a w hsz hdc hL hlate hqk hk hf h hp
    refine ⟨fun hr => fin k listed st a w hsz hL hqk hk h hp (none_left listed hsz hr), fun i hi => ?_⟩
    obtain ⟨o, ho, hl, he⟩ := (ready_iff hsz).1 hi
    have hin : i < ops.size := by have := (List.getElem?_eq_some_iff.1 ho).1; simpa using this
    have hset : ∀ j, Lst (listed.setIfInBounds i true) j ↔ j = i ∨ Lst listed j := fun j => lst_set (by omega)
    have hLs : (Lst (listed.setIfInBounds i true)) = (fun j => j = i ∨ Lst listed j) := funext fun j => propext (hset j)
    have hdc' : ∀ j oj, ops.toList[j]? = some oj → Lst (listed.setIfInBounds i true) j → ∀ k' ∈ edges oj, Lst (listed.setIfInBounds i true) k' := fun j oj hoj hlj k' hk' => by
      rcases (hset j).1 hlj with rfl | hlj
      · rw [ho] at hoj
        injection hoj with hoj
        subst hoj
        exact (hset k').2 (.inr (he k' hk'))
      · exact (hset k').2 (.inr (hdc j oj hoj hlj k' hk'))
    have hcn := cnt_set hin hsz hl
    unfold wpOp
    have ho' : ops[i]? = some o := by rwa [Array.getElem?_toList] at ho
    rw [ho']
    simp only []
    by_cases hiq : i < q
    · have hli : lt.getD i false = true := (hlate i hiq).resolve_left hl
      obtain ⟨hgd, _⟩ := dk.late i o hli ho
      obtain ⟨v', hr, hp'⟩ := late_exec hc cx dk hV hli ho hl hdc he hp
      rw [if_pos (by simp [Region.wanted, hgd])]
      left
      unfold Oper.wp
      rw [hr]
      refine ih k _ st _ w (by simpa using hsz) hdc' (fun j hj => ?_) (fun j hj => ?_) hqk hk (by omega) h (by rw [hLs]; exact hp')
      · rw [hset j, hL j hj]
        constructor
        · rintro (e | e)
          · omega
          · exact e
        · exact .inr
      · rcases hlate j hj with e | e
        · exact .inl ((hset j).2 (.inr e))
        · exact .inr e
    · have hqi : q ≤ i := by omega
      have hik : i = k := by
        have hge : k ≤ i := Nat.le_of_not_lt fun h => hl ((hL i hqi).2 h)
        by_cases hgt : k < i
        · rcases dk.tail i o ho hqi k hgt with hb | hb
          · have := bit_mem dk.lt hdc i o ho he k hb
            have := (hL k hqk).1 this
            omega
          · have := late_lt hb
            rw [dk.len_] at this
            omega
        · omega
      subst hik
      have hdrop : ops.toList.drop i = o :: ops.toList.drop (i + 1) := by
        have := List.drop_eq_getElem_cons (l := ops.toList) (i := i) (by simpa using hin)
        rw [this]
        congr 1
        rw [List.getElem?_eq_getElem (by simpa using hin)] at ho
        injection ho
      rw [hdrop] at h
      refine rest_one hc cx dk hV hqi ho hdc he h hp fun st' a' w' h' hp' => ih (i + 1) _ st' a' w' (by simpa using hsz) hdc' (fun j hj => by rw [hset j, hL j hj]; omega) (fun j hj => ?_) (by omega) (by omega) (by omega) h' ?_
      · rcases hlate j hj with e | e
        · exact .inl ((hset j).2 (.inr e))
        · exact .inr e
      · obtain ⟨b, hs, hag, henvs⟩ := hp'
        refine ⟨b, hs, ⟨hag.defers, hag.size, fun t ht => hag.at_ t fun j oj hlj hnj hoj => ht j oj hlj (fun h => ?_) hoj⟩, henvs⟩
        rcases (hset j).1 h with e | e
        · have := late_lt hlj
          rw [dk.len_] at this
          omega
        · exact hnj e
end rest
section region
variable {R : Type} {call : CallK R} {ops : Array Oper} {len q : Nat} {lt : List Bool} {Q : Exit → Act → World → Prop} {K : St → Option R} {out : R}
variable {rts : List CV} {V : Nat → AV} {S : Nat → List Slot} {E : Nat → List AV} {HH : Nat → Heap}
variable (hc : CallS P call) (cx : CtxOk P C) (dk : DrawOk ops len q lt) (hQ : ∀ st' a' w', K st' = some out → Sim LN w0 F0 X st' a' w' → Q .normal a' w')
variable (tr : QT P C ops ops.toList env H q lt V S E HH) (hlen : env.length = len)
include hc cx dk tr hlen
/-- What a quiet operation looks at. -/
theorem quiet_look {L : Nat → Prop} {i : Nat} {o : Oper} (hi : i < q) (ho : ops.toList[i]? = some o) (hnl : ¬ L i) (hdc : ∀ i o, ops.toList[i]? = some o → L i → ∀ j ∈ edges o, L j) (he : ∀ j ∈ edges o, L j) {F : Nat → Prop} {β : Bd}
    (h0 : ∀ t, (∀ i o, i < q → L i → ops.toList[i]? = some o → o.dst ≠ some t) → RepA F w β (HH q) (envAt env t) (a.tmps.getD t undef)) (hV : ∀ i o t, i < q → L i → ops.toList[i]? = some o → o.dst = some t → RepA F w β (HH q) (V i) (a.tmps.getD t undef)) : ∀ t ∈ o.looksAt ops, RepA F w β (HH q) (envAt (E i) t) (a.tmps.getD t undef) := by
  have hq : q ≤ ops.toList.length := by have := dk.le; simpa using this
  have hbits := bit_mem dk.lt hdc i o ho he
  intro t ht
  rcases tr_env tr hq hlen dk.dst (show i ≤ q by omega) t with ⟨j, oj, hj, hoj, hdj, hv⟩ | ⟨hno, hv⟩
  · rw [hv]
    rcases dk.look i j o oj t hi (by omega) (by omega) ho hoj hdj ht with hb | hb
    · exact hV j oj t (by omega) (hbits j hb) hoj hdj
    · have := bit_lt dk.lt j oj hoj i hb
      omega
  · rw [hv]
    refine h0 t fun j oj hj hLj hoj hdj => ?_
    have hne : i ≠ j := fun e => hnl (e ▸ hLj)
    rcases dk.look i j o oj t hi hj hne ho hoj hdj ht with hb | hb
    · have := bit_lt dk.lt i o ho j hb
      exact hno j oj this hoj hdj
    · exact hnl (bit_mem dk.lt hdc j oj hoj (hdc j oj hoj hLj) i hb)
/-- A quiet operation comes. -/
theorem quiet_one {L : Nat → Prop} {i : Nat} {o : Oper} (hi : i < q) (ho : ops.toList[i]? = some o) (hnl : ¬ L i) (hdc : ∀ i o, ops.toList[i]? = some o → L i → ∀ j ∈ edges o, L j) (he : ∀ j ∈ edges o, L j) (h : P1 LN X rts w0 F0 ops.toList env H len q V S HH L a w) {Q : Exit → Act → World → Prop} {N : Act → World → Prop}
    (hN : ∀ a' w', P1 LN X rts w0 F0 ops.toList env H len q V S HH (fun j => j = i ∨ L j) a' w' → N a' w') : (lt.getD i false = true → ∃ v', (execOp a.eval o).run P w = .ok (.value v') w ∧ N (a.put o.dst v') w) ∧ if Region.wanted o (yielded ops a.tmps) then o.wp P a w N Q ∨ (o.asks P a w ∧ LetsOut Q) else N (a.put o.dst undef) w := by
  obtain ⟨F, β, gd, hd, hsz, hdom, h0, hV⟩ := h
  have hq : q ≤ ops.toList.length := by have := dk.le; simpa using this
  obtain ⟨hE, hH, hg⟩ := tr.step i o hi ho
  have hlook := quiet_look hc cx dk tr hlen hi ho hnl hdc he h0 hV
  -- behind it
  have fin : ∀ {v' : Value} {w' : World} {F' : Nat → Prop} {β' : Bd}, Good LN w0 w' F0 F' β' (HH q) → Keeps F F' w w' β β' (HH q) (HH q) → RepA F' w' β' (HH q) (V i) v' → (∀ h, β' h ≠ none → β h ≠ none ∨ ((HH i).length ≤ h ∧ h < (HH i).length + (S i).length)) → N (a.put o.dst v') w' := by
    intro v' w' F' β' g2 k2 r d2
    refine hN _ _ ⟨F', β', g2, ⟨by cases o.dst <;> exact hd.1, hd.2.mono fun _ _ => RepV.mono k2⟩, by cases o.dst <;> simp [Act.put, hsz], fun h hh => ?_, fun t ht => ?_, fun j oj t hj hL hoj hdj => ?_⟩
    · rcases d2 h hh with h1 | h1
      · rcases hdom h h1 with h2 | ⟨j, hj, hL, h2⟩
        · exact .inl h2
        · exact .inr ⟨j, hj, .inr hL, h2⟩
      · exact .inr ⟨i, hi, .inl rfl, h1⟩
    · rw [put_get (ht i o hi (.inl rfl) ho)]
      exact (h0 t fun j oj hj hL hoj => ht j oj hj (.inr hL) hoj).mono k2
    · rcases hL with rfl | hL
      · rw [ho] at hoj
        injection hoj with hoj
        subst hoj
        rw [hdj, put_self (by rw [hsz]; exact dk.dst j o t ho hdj)]
        exact r
      · have hne : i ≠ j := fun e => hnl (e ▸ hL)
        rw [put_get (dk.one i j o oj t hi hj hne ho hoj hdj)]
        exact (hV j oj t hj hL hoj hdj).mono k2
  have hfree : ∀ j, j < (S i).length → β ((HH i).length + j) = none := by
    intro j hj
    cases hb : β ((HH i).length + j) with
    | none => rfl
    | some u =>
      rcases hdom _ (by rw [hb]; simp) with h2 | ⟨k, hk, hL, h2, h3⟩
      · obtain ⟨r, e⟩ := tr_pre tr hq (Nat.zero_le i) (show i ≤ q by omega)
        rw [e, tr.h0, List.length_append] at h2
        omega
      · have hne : k ≠ i := fun e => hnl (e ▸ hL)
        rcases Nat.lt_or_gt_of_ne hne with hlt | hlt
        · have := tr_len tr hq hlt (show i ≤ q by omega); omega
        · have := tr_len tr hq hlt (show k ≤ q by omega); omega
  have qs : QS P C o (E i) (HH i) (V i) (S i) → o.wp P a w N Q := fun hqs =>
    qs_ok hqs cx gd (tr_sub tr hq (show i ≤ q by omega)) hfree (fun j s hs => tr_slot tr hq hi hs) (fun x hx => opr_ok x fun t e => hlook t (by
      subst e
      unfold Oper.looksAt
      refine List.mem_append.2 (.inl ?_)
      exact List.mem_filterMap.2 ⟨_, by simpa using hx, rfl⟩)) _ _ fun v' w' F' β' g2 k2 r d2 => fin g2 k2 r d2
  have hx0 : ∀ x ∈ o.op.operands, OpOk F w β (HH q) (E i) a x := fun x hx => opr_ok x fun t e => hlook t (by
      subst e
      unfold Oper.looksAt
      refine List.mem_append.2 (.inl ?_)
      exact List.mem_filterMap.2 ⟨_, by simpa using hx, rfl⟩)
  rcases hg with ⟨hlf, hg⟩ | ⟨hlt, hgd, hql, hs0⟩
  rotate_left
  · obtain ⟨v', hr, rv⟩ := late_run cx gd hx0 hql
    have hn := fin gd ⟨fun _ h => h, fun _ _ => rfl, fun _ _ h => h, fun h s hs => ⟨s, hs, like_refl s⟩⟩ rv fun h hh => .inl hh
    refine ⟨fun _ => ⟨v', hr, hn⟩, ?_⟩
    rw [if_pos (by simp [Region.wanted, hgd])]
    left
    unfold Oper.wp
    rw [hr]
    exact hn
  refine ⟨fun h => by rw [hlf] at h; simp at h, ?_⟩
  rcases hg with ⟨hg, hqs⟩ | ⟨j, want, d, b, hg, hdst, hb, hor⟩ | ⟨j, want, d, hg, hdst, hb, hv, hs⟩
  · rw [if_pos (by simp [Region.wanted, hg])]
    exact .inl (qs hqs)
  · have hlkd : d ∈ o.looksAt ops := by
      unfold Oper.looksAt
      refine List.mem_append.2 (.inr ?_)
      rw [hg]
      simp [hdst]
    have hyield : yielded ops a.tmps j = some b := by
      unfold yielded
      rw [hdst]
      simp only [Option.bind_some, env_bool (hlook d hlkd) hb]
    have hwant : Region.wanted o (yielded ops a.tmps) = (b == want) := by
      simp [Region.wanted, hg, hyield]
    rcases hor with ⟨rfl, hqs⟩ | ⟨hne, hv, hs⟩
    · rw [if_pos (by simp [hwant])]
      exact .inl (qs hqs)
    · rw [if_neg (by simp [hwant, hne])]
      exact fin gd ⟨fun _ h => h, fun _ _ => rfl, fun _ _ h => h, fun h s hs => ⟨s, hs, like_refl s⟩⟩ (by rw [hv]; exact rep_skip) fun h hh => .inl hh
  · have hlkd : d ∈ o.looksAt ops := by
      unfold Oper.looksAt
      refine List.mem_append.2 (.inr ?_)
      rw [hg]
      simp [hdst]
    rw [if_neg (by simp [Region.wanted, hg, yield_skip hdst (hlook d hlkd) hb])]
    exact fin gd ⟨fun _ h => h, fun _ _ => rfl, fun _ _ h => h, fun h s hs => ⟨s, hs, like_refl s⟩⟩ (by rw [hv]; exact rep_skip) fun h hh => .inl hh
/-- What may come late is there already, as it were. -/
theorem late_all : ∀ (n : Nat) (L : Nat → Prop) (a : Act) (w : World), (∀ i o, ops.toList[i]? = some o → L i → ∀ j ∈ edges o, L j) → (∀ i, i < q → L i ∨ lt.getD i false = true) → (∀ i, i < q - n → L i) → P1 LN X rts w0 F0 ops.toList env H len q V S HH L a w →
    ∃ b, (∃ L' : Nat → Prop, (∀ i, i < q → L' i) ∧ P1 LN X rts w0 F0 ops.toList env H len q V S HH L' b w) ∧ Agree ops lt L a b := by
  have hq : q ≤ ops.toList.length := by have := dk.le; simpa using this
  intro n
  induction n with
  | zero => intro L a w hdc hlate hlow h; exact ⟨a, ⟨L, fun i hi => hlow i (by omega), h⟩, rfl, rfl, fun t _ => rfl⟩
  | succ n ih =>
    intro L a w hdc hlate hlow h
    by_cases hn : q - n = q - (n + 1)
    · exact ih L a w hdc hlate (fun i hi => hlow i (by omega)) h
    · have hiq : q - (n + 1) < q := by omega
      by_cases hL : L (q - (n + 1))
      · refine ih L a w hdc hlate (fun i hi => ?_) h
        by_cases e : i = q - (n + 1)
        · rw [e]; exact hL
        · exact hlow i (by omega)
      · have hli := (hlate _ hiq).resolve_left hL
        have ho : ops.toList[q - (n + 1)]? = some ops.toList[q - (n + 1)] := List.getElem?_eq_getElem (by omega)
        generalize ops.toList[q - (n + 1)] = o at ho
        have he : ∀ j ∈ edges o, L j := fun j hj => hlow j (dk.lt _ o ho j hj)
        obtain ⟨h1, _⟩ := quiet_one hc cx dk tr hlen (Q := fun _ _ _ => False) hiq ho hL hdc he h (fun a' w' h' => h')
        obtain ⟨v', hr, h2⟩ := h1 hli
        obtain ⟨b, hb, hag⟩ := ih (fun j => j = q - (n + 1) ∨ L j) _ w (fun i oi hoi hl j hj => by
          rcases hl with rfl | hl
          · rw [ho] at hoi
            injection hoi with hoi
            subst hoi
            exact .inr (he j hj)
          · exact .inr (hdc i oi hoi hl j hj)) (fun i hi => (hlate i hi).imp .inr id) (fun i hi => by
            by_cases e : i = q - (n + 1)
            · exact .inl e
            · exact .inr (hlow i (by omega))) h2
        obtain ⟨_, t, hdt, _⟩ := dk.late _ o hli ho
        refine ⟨b, hb, by rw [← hag.defers]; cases o.dst <;> rfl, by rw [← hag.size]; cases o.dst <;> simp [Act.put], fun u hu => ?_⟩
        rw [← hag.at_ u fun j oj hlj hnj hoj => hu j oj hlj (fun h => hnj (.inr h)) hoj]
        exact (put_get (hu _ o hli hL ho)).symm
include hQ
theorem quiet_all (hk : opsK C call ops 0 [] (ops.toList.drop q) ⟨E q, HH q, rts⟩ K = some out) : ∀ (fuel : Nat) (listed : Array Bool) (a : Act) (w : World), listed.size = ops.size → (∀ i o, ops.toList[i]? = some o → Lst listed i → ∀ j ∈ edges o, Lst listed j) → (∀ i, Lst listed i → i < q) → cnt ops.size listed ≤ fuel →
    P1 LN X rts w0 F0 ops.toList env H len q V S HH (Lst listed) a w → wpAny P .any ops Q fuel listed a w := by
  have hq : q ≤ ops.toList.length := by have := dk.le; simpa using this
  have hV : ∀ j o, lt.getD j false = true → ops.toList[j]? = some o → opQ C (E j) [] 0 o = some (true, V j, []) := fun j o hlj ho => by
    have hjq : j < q := by rw [← dk.len_]; exact late_lt hlj
    rcases (tr.step j o hjq ho).2.2 with ⟨h, _⟩ | ⟨_, _, h, _⟩
    · rw [hlj] at h; simp at h
    · exact h
  have henvs : Envs ops lt E V (E q) := fun j o hlj ho => by
    have hjq : j < q := by rw [← dk.len_]; exact late_lt hlj
    obtain ⟨_, t, hdt, hown, hearly, _⟩ := dk.late j o hlj ho
    refine ⟨fun u hu => ?_, fun t' ht' => ?_⟩
    · rcases tr_env tr hq hlen dk.dst (Nat.le_refl q) u with ⟨k, ok, hk', hok, hdk, hv⟩ | ⟨hno, hv⟩
      · have hkj : k ≠ j := fun e => by
          subst e
          rw [ho] at hok
          injection hok with hok
          subst hok
          rw [hdt] at hdk
          injection hdk with hdk
          subst hdk
          exact hown hu
        have hbit := hearly k ok u hk' hkj hok hdk hu
        have hlt := bit_lt dk.lt j o ho k hbit
        rcases tr_env tr hq hlen dk.dst (show j ≤ q by omega) u with ⟨k2, ok2, hk2, hok2, hdk2, hv2⟩ | ⟨hno2, _⟩
        · have : k = k2 := Classical.byContradiction fun hne => dk.one k k2 ok ok2 u hk' (by omega) hne hok hok2 hdk2 hdk
          subst this
          rw [hv, hv2]
        · exact absurd hdk (hno2 k ok hlt hok)
      · rcases tr_env tr hq hlen dk.dst (show j ≤ q by omega) u with ⟨k2, ok2, hk2, hok2, hdk2, hv2⟩ | ⟨_, hv2⟩
        · exact absurd hdk2 (hno k2 ok2 (by omega) hok2)
        · rw [hv, hv2]
    · rcases tr_env tr hq hlen dk.dst (Nat.le_refl q) t' with ⟨k, ok, hk', hok, hdk, hv⟩ | ⟨hno, _⟩
      · have : k = j := Classical.byContradiction fun hne => dk.one k j ok o t' hk' hjq hne hok ho ht' hdk
        subst this
        exact hv
      · exact absurd ht' (hno j o hjq ho)
  have over : ∀ (fuel : Nat) (listed : Array Bool) (a : Act) (w : World), listed.size = ops.size → (∀ i o, ops.toList[i]? = some o → Lst listed i → ∀ j ∈ edges o, Lst listed j) → (∀ i, Lst listed i → i < q) → (∀ i, i < q → Lst listed i ∨ lt.getD i false = true) → cnt ops.size listed ≤ fuel → P1 LN X rts w0 F0 ops.toList env H len q V S HH (Lst listed) a w → wpAny P .any ops Q fuel listed a w := by
    intro fuel listed a w hsz hdc hlt hall hcnt h
    obtain ⟨b, ⟨L', hL', hP⟩, hag⟩ := late_all hc cx dk tr hlen q (Lst listed) a w hdc hall (fun i hi => by omega) h
    obtain ⟨F, β, gd, hd, hsz', hdom, h0, hVV⟩ := hP
    refine rest_ok hc cx dk hQ hV fuel q listed _ a w hsz hdc (fun i hi => ⟨fun h => hlt i h, fun h => by omega⟩) hall (Nat.le_refl _) dk.le hcnt hk ⟨b, ⟨F, β, gd, hd, by rw [hsz']; exact (tr_envlen tr hq (Nat.le_refl _)).trans hlen |>.symm, fun t => ?_⟩, hag, henvs⟩
    rcases tr_env tr hq hlen dk.dst (Nat.le_refl q) t with ⟨j, oj, hj, hoj, hdj, hv⟩ | ⟨hno, hv⟩
    · show RepA F w β (HH q) (envAt (E q) t) _
      rw [hv]
      exact hVV j oj t hj (hL' j hj) hoj hdj
    · show RepA F w β (HH q) (envAt (E q) t) _
      rw [hv]
      exact h0 t fun j oj hj _ hoj => hno j oj hj hoj
  intro fuel
  induction fuel with
  | zero =>
    intro listed a w hsz hdc hlt hcnt h
    refine over 0 listed a w hsz hdc hlt (fun i hi => ?_) hcnt h
    refine .inl (Classical.byContradiction fun hl => ?_)
    have := cnt_pos (n := ops.size) (show i < ops.size by have := dk.le; omega) hl
    omega
  | succ fuel ih =>
    intro listed a w hsz hdc hlt hcnt h
    by_cases hall : ∀ i, i < q → Lst listed i ∨ lt.getD i false = true
    · exact over _ listed a w hsz hdc hlt hall hcnt h
    · have hex : ∃ i, i < q ∧ ¬ (Lst listed i ∨ lt.getD i false = true) := by
        refine Classical.byContradiction fun hn => hall fun i hi => ?_
        refine Classical.byContradiction fun hl => hn ⟨i, hi, hl⟩
      obtain ⟨k, hk1, hk2⟩ := hex
      have hk2a : ¬ Lst listed k := fun h => hk2 (.inl h)
      have hk2b : ¬ lt.getD k false = true := fun h => hk2 (.inr h)
      have none_left : Region.ready .any ops listed = [] → ∀ i, i < ops.size → Lst listed i := by
        intro hr i
        induction i using Nat.strongRecOn with
        | _ i ihi =>
          intro hi
          refine Classical.byContradiction fun hl => ?_
          have hko : i < ops.toList.length := by simpa using hi
          have := (ready_iff (i := i) hsz).2 ⟨_, List.getElem?_eq_getElem hko, hl, fun j hj => ihi j (dk.lt i _ (List.getElem?_eq_getElem hko) j hj) (by have := dk.lt i _ (List.getElem?_eq_getElem hko) j hj; omega)⟩
          rw [hr] at this
          simp at this
      refine ⟨fun hr => ?_, fun i hi => ?_⟩
      · exact absurd (none_left hr k (by have := dk.le; omega)) hk2a
      · obtain ⟨o, ho, hl, he⟩ := (ready_iff hsz).1 hi
        have hiq : i < q := by
          refine Classical.byContradiction fun hge => ?_
          rcases dk.tail i o ho (by omega) k (by omega) with hb | hb
          · exact hk2a (bit_mem dk.lt hdc i o ho he k hb)
          · exact hk2b hb
        have hin : i < ops.size := by have := dk.le; omega
        unfold wpOp
        rw [Array.getElem?_toList] at ho
        rw [ho]
        rw [← Array.getElem?_toList] at ho
        refine (quiet_one hc cx dk tr hlen hiq ho hl hdc he h fun a' w' h' => ?_).2
        have hset : ∀ j, Lst (listed.setIfInBounds i true) j ↔ j = i ∨ Lst listed j := fun j => lst_set (by omega)
        refine ih _ a' w' (by simpa using hsz) (fun j oj hoj hlj k' hk' => ?_) (fun j hj => ?_) ?_ ?_
        · rcases (hset j).1 hlj with rfl | hlj
          · rw [ho] at hoj
            injection hoj with hoj
            subst hoj
            exact (hset k').2 (.inr (he k' hk'))
          · exact (hset k').2 (.inr (hdc j oj hoj hlj k' hk'))
        · rcases (hset j).1 hj with rfl | hj
          · exact hiq
          · exact hlt j hj
        · have := cnt_set hin hsz hl; omega
        · have : (Lst (listed.setIfInBounds i true)) = (fun j => j = i ∨ Lst listed j) := funext fun j => propext (hset j)
          rw [this]
          exact h'
end region
/-- A region that draws its order. -/
theorem draw_ok {R : Type} {call : CallK R} {ops : Array Oper} {q : Nat} {lt : List Bool} {Q : Exit → Act → World → Prop} {K : St → Option R} {out : R} (hc : CallS P call) (cx : CtxOk P C) (hd : drawAt ops st.env.length = some (q, lt)) (h : opsK C call ops q lt ops.toList st K = some out) (hs : Sim LN w0 F0 X st a w)
    (hQ : ∀ st' a' w', K st' = some out → Sim LN w0 F0 X st' a' w' → Q .normal a' w') : wpAny P .any ops Q ops.size (Array.replicate ops.size false) a w := by
  have dk := drawAt_ok hd
  have hq : q ≤ ops.toList.length := by have := dk.le; simpa using this
  obtain ⟨V, S, E, HH, tr, hk⟩ := trace hc st.roots ops.toList q lt st.env st.heap K out h hq
  rw [List.drop_of_length_le (l := lt) (by rw [dk.len_]; exact Nat.le_refl _)] at hk
  obtain ⟨F, β, gd, hdf, hsz, henv⟩ := hs
  have hnone : ∀ i, ¬ Lst (Array.replicate ops.size false) i := fun i h => by
    unfold Lst at h
    rw [Array.getD_eq_getD_getElem?, Array.getElem?_replicate] at h
    split at h <;> simp at h
  obtain ⟨r, hr⟩ := tr_pre tr hq (Nat.zero_le q) (Nat.le_refl _)
  rw [tr.h0] at hr
  obtain ⟨g2, k2⟩ := good_more gd r
  rw [← hr] at g2 k2
  refine quiet_all hc cx dk hQ tr rfl hk ops.size _ a w (by simp) (fun i o _ hl => absurd hl (hnone i)) (fun i hl => absurd hl (hnone i)) ?_ ⟨F, β, g2, ⟨hdf.1, hdf.2.mono fun _ _ => RepV.mono k2⟩, hsz, fun h hh => ?_, fun t _ => (henv t).mono k2, fun i o t _ hl => absurd hl (hnone i)⟩
  · unfold cnt
    exact Nat.le_trans (List.length_filter_le _ _) (by simp)
  · left
    cases hb : β h with
    | none => exact absurd hb hh
    | some u => exact bound_lt gd hb
end
end Go.Proofs.Ytanpdkllnmeenaa.Am

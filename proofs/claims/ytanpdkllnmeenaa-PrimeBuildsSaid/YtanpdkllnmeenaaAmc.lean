/- Regions that draw their order: the quiet part. -/
import Derived.Test.YtanpdkllnmeenaaAmb
import Derived.Test.YtanpdkllnmeenaaAma
import Derived.KernelRfl
import Derived.WideShapes
import Derived.ChangeShapes
import Derived.ChangeSlices
import Derived.ChangeArms
import Derived.DataReads
import Derived.SizedLaws
import Derived.Shelf.Spec.SlicesGrow
import Derived.Shelf.SlSortCmp.NoneTotal
namespace Go.Proofs.Ytanpdkllnmeenaa.Am
open Go Go.RowKit
set_option linter.unusedVariables false
set_option linter.unusedSectionVars false
set_option linter.unusedSimpArgs false
section
variable {P : Program} {C : Ctx} {F F' F1 F'' : Nat → Prop} {w w' : World} {β β' β0 : Bd} {H H' H1 G H0 : Heap}
variable {LN : Nat → Prop} {X : List Value} {w0 : World} {F0 : Nat → Prop} {n : Nat} {sl : List Slot} {env : List AV} {a : Act} {o : Oper} {v : AV} {base : Nat → Prop} {D : Nat → Prop} {st st' : St}
section trace
variable {ops : Array Oper} {l : List Oper} {q : Nat} {V : Nat → AV} {S : Nat → List Slot} {E : Nat → List AV} {HH : Nat → Heap} {lt : List Bool} (tr : QT P C ops l env H q lt V S E HH) (hq : q ≤ l.length)
include tr hq
theorem tr_op {i : Nat} (hi : i < q) : ∃ o, l[i]? = some o := ⟨_, List.getElem?_eq_getElem (by omega)⟩
theorem tr_pre : ∀ {i j : Nat}, i ≤ j → j ≤ q → ∃ r, HH j = HH i ++ r := by
  intro i j hij hj
  induction j with
  | zero => exact ⟨[], by rw [show i = 0 by omega]; simp⟩
  | succ j ih =>
    by_cases e : i = j + 1
    · subst e; exact ⟨[], by simp⟩
    · obtain ⟨r, h⟩ := ih (by omega) (by omega)
      obtain ⟨o, ho⟩ := tr_op tr hq (show j < q by omega)
      exact ⟨r ++ S j, by rw [(tr.step j o (by omega) ho).2.1, h, List.append_assoc]⟩
theorem tr_slot {i : Nat} (hi : i < q) {j : Nat} {s : Slot} (hs : (S i)[j]? = some s) : (HH q)[(HH i).length + j]? = some s := by
  obtain ⟨o, ho⟩ := tr_op tr hq hi
  obtain ⟨r, h⟩ := tr_pre tr hq (show i + 1 ≤ q by omega) (Nat.le_refl _)
  rw [h, (tr.step i o hi ho).2.1, List.append_assoc, List.getElem?_append_right (by omega), Nat.add_sub_cancel_left, List.getElem?_append_left (List.getElem?_eq_some_iff.1 hs).1]
  exact hs
theorem tr_sub {i : Nat} (hi : i ≤ q) : Sub (HH i) (HH q) := by
  intro h s hs _
  obtain ⟨r, e⟩ := tr_pre tr hq hi (Nat.le_refl _)
  rw [e, List.getElem?_append_left (List.getElem?_eq_some_iff.1 hs).1]
  exact hs
theorem tr_len {i j : Nat} (hij : i < j) (hj : j ≤ q) : (HH i).length + (S i).length ≤ (HH j).length := by
  obtain ⟨o, ho⟩ := tr_op tr hq (show i < q by omega)
  obtain ⟨r, h⟩ := tr_pre tr hq (show i + 1 ≤ j by omega) hj
  rw [h, (tr.step i o (by omega) ho).2.1, List.length_append, List.length_append]
  omega
theorem tr_envlen {i : Nat} (hi : i ≤ q) : (E i).length = env.length := by
  induction i with
  | zero => rw [tr.e0]
  | succ i ih =>
    obtain ⟨o, ho⟩ := tr_op tr hq (show i < q by omega)
    rw [(tr.step i o (by omega) ho).1, ← ih (by omega)]
    cases o.dst <;> simp [put]
theorem tr_env {len : Nat} (hlen : env.length = len) (hdst : ∀ (i : Nat) (o : Oper) (t : Nat), l[i]? = some o → o.dst = some t → t < len) : ∀ {i : Nat}, i ≤ q → ∀ t, (∃ (j : Nat) (o : Oper), j < i ∧ l[j]? = some o ∧ o.dst = some t ∧ envAt (E i) t = V j) ∨ ((∀ (j : Nat) (o : Oper), j < i → l[j]? = some o → o.dst ≠ some t) ∧ envAt (E i) t = envAt env t) := by
  intro i
  induction i with
  | zero => intro _ t; right; exact ⟨fun j o hj => by omega, by rw [tr.e0]⟩
  | succ i ih =>
    intro hi t
    obtain ⟨o, ho⟩ := tr_op tr hq (show i < q by omega)
    have he := (tr.step i o (by omega) ho).1
    by_cases hd : o.dst = some t
    · left
      refine ⟨i, o, by omega, ho, hd, ?_⟩
      have ht := hdst i o t ho hd
      have hl := tr_envlen tr hq (show i ≤ q by omega)
      rw [he, hd]
      simp only [envAt, put, List.getD_eq_getElem?_getD]
      rw [List.getElem?_set_self (by omega)]
      rfl
    · have hsame : envAt (E (i + 1)) t = envAt (E i) t := by
        rw [he]
        cases hdo : o.dst with
        | none => rfl
        | some d =>
          simp only [envAt, put, List.getD_eq_getElem?_getD]
          rw [List.getElem?_set_ne (fun e => hd (by rw [hdo, e]))]
      rcases ih (by omega) t with ⟨j, o', hj, ho', hd', hv⟩ | ⟨hno, hv⟩
      · exact .inl ⟨j, o', by omega, ho', hd', by rw [hsame, hv]⟩
      · right
        refine ⟨fun j o' hj ho' => ?_, by rw [hsame, hv]⟩
        by_cases e : j = i
        · subst e; rw [ho] at ho'; injection ho' with ho'; rw [← ho']; exact hd
        · exact hno j o' (by omega) ho'
end trace
/-- The state while quiet operations come. -/
def P1 (LN : Nat → Prop) (X : List Value) (rts : List CV) (w0 : World) (F0 : Nat → Prop) (l : List Oper) (env : List AV) (H : Heap) (len q : Nat) (V : Nat → AV) (S : Nat → List Slot) (HH : Nat → Heap) (L : Nat → Prop) (a : Act) (w : World) : Prop :=
  ∃ F β, Good LN w0 w F0 F β (HH q) ∧ (a.defers = [] ∧ All2 (RepV F w β (HH q)) rts X) ∧ a.tmps.size = len ∧
    (∀ h, β h ≠ none → h < H.length ∨ ∃ i, i < q ∧ L i ∧ (HH i).length ≤ h ∧ h < (HH i).length + (S i).length) ∧
    (∀ t, (∀ i o, i < q → L i → l[i]? = some o → o.dst ≠ some t) → RepA F w β (HH q) (envAt env t) (a.tmps.getD t undef)) ∧
    (∀ i o t, i < q → L i → l[i]? = some o → o.dst = some t → RepA F w β (HH q) (V i) (a.tmps.getD t undef))
theorem put_get {a : Act} {d : Option Tmp} {u : Value} {t : Nat} (h : d ≠ some t) : (a.put d u).tmps.getD t undef = a.tmps.getD t undef := by
  cases d with
  | none => rfl
  | some d =>
    have : d ≠ t := fun e => h (by rw [e])
    simp [Act.put, Array.getElem?_setIfInBounds_ne this]
theorem put_self {a : Act} {d : Nat} {u : Value} (h : d < a.tmps.size) : (a.put (some d) u).tmps.getD d undef = u := by simp [Act.put, h]
/-! ### The rest, and what comes late -/
theorem wp_swap {o : Oper} {a b : Act} {w : World} {N N' : Act → World → Prop} {Q : Exit → Act → World → Prop} {R : Act → Act → Prop} (hop : execOp a.eval o = execOp b.eval o) (hput : ∀ v, R (a.put o.dst v) (b.put o.dst v)) (hdef : ∀ d, R ({ a with defers := d :: a.defers }.put o.dst undef) ({ b with defers := d :: b.defers }.put o.dst undef))
    (hN : ∀ a' b' w', R a' b' → N b' w' → N' a' w') (h : o.wp P b w N (fun _ _ _ => False)) : o.wp P a w N' Q := by
  unfold Oper.wp at *
  rw [hop]
  generalize (execOp b.eval o).run P w = r at *
  cases r with
  | ok n w' =>
    cases n <;> simp only [Oper.upon] at h ⊢ <;>
      first
        | exact hN _ _ _ (hput _) h
        | exact hN _ _ _ (hdef _) h
        | exact Calls.mono h (fun e w'' he => by
            cases e <;> first
              | exact hN _ _ _ (hput _) he
              | exact he.elim
              | (obtain ⟨_, _, h⟩ := he; exact h.elim))
        | exact Rows.mono h (fun _ _ he => hN _ _ _ (hput _) he)
        | exact h.elim
  | halt x w' => cases x <;> simp only [Oper.upon] at h ⊢ <;> first | exact h.elim | exact h
/-- One that may come late, run. -/
theorem late_run (cx : CtxOk P C) {F : Nat → Prop} {β : Bd} (gd : Good LN w0 w F0 F β G) (hE : ∀ x ∈ o.op.operands, OpOk F w β G env a x) (hq : opQ C env [] 0 o = some (true, v, [])) : ∃ v', (execOp a.eval o).run P w = .ok (.value v') w ∧ RepA F w β G v v' := by
  have pre : Pre LN w0 w F0 F β [] G 0 [] := ⟨gd, fun h s hs => by simp at hs, fun j s hs => by simp at hs⟩
  obtain ⟨v', w', us, hr, hl, ⟨_, hw⟩, _, hall⟩ := opQ_ok pre hE cx hq
  have := hw rfl
  subst this
  exact ⟨v', hr, (hall β (fun _ _ h => h) (fun j u hj => by have := List.length_eq_zero_iff.1 hl; subst this; simp at hj)).2⟩
theorem put_at' {a : Act} {d t : Nat} {u : Value} : (a.put (some d) u).tmps.getD t undef = if d = t ∧ d < a.tmps.size then u else a.tmps.getD t undef := by
  simp only [Act.put, Array.getD_eq_getD_getElem?, Array.getElem?_setIfInBounds]
  by_cases h : d = t
  · subst h
    by_cases hs : d < a.tmps.size
    · simp [hs]
    · simp [hs]
  · simp [h]
/-- Alike, but for what is to come late. -/
structure Agree (ops : Array Oper) (lt : List Bool) (Ls : Nat → Prop) (a b : Act) : Prop where
  defers : a.defers = b.defers
  size : a.tmps.size = b.tmps.size
  at_ : ∀ t, (∀ j o, lt.getD j false = true → ¬ Ls j → ops.toList[j]? = some o → o.dst ≠ some t) → a.tmps.getD t undef = b.tmps.getD t undef
theorem Agree.put {ops : Array Oper} {lt : List Bool} {Ls : Nat → Prop} {a b : Act} (h : Agree ops lt Ls a b) (d : Option Tmp) (u : Value) : Agree ops lt Ls (a.put d u) (b.put d u) := by
  cases d with
  | none => exact h
  | some d =>
    refine ⟨h.defers, by simp [Act.put, h.size], fun t ht => ?_⟩
    rw [put_at', put_at', h.size, h.at_ t ht]
def Envs (ops : Array Oper) (lt : List Bool) (E : Nat → List AV) (V : Nat → AV) (env : List AV) : Prop :=
  ∀ j o, lt.getD j false = true → ops.toList[j]? = some o → (∀ u ∈ o.looksAt ops, envAt env u = envAt (E j) u) ∧ ∀ t, o.dst = some t → envAt env t = V j
def P3 (LN : Nat → Prop) (X : List Value) (w0 : World) (F0 : Nat → Prop) (ops : Array Oper) (lt : List Bool) (E : Nat → List AV) (V : Nat → AV) (st : St) (Ls : Nat → Prop) (a : Act) (w : World) : Prop :=
  ∃ b, Sim LN w0 F0 X st b w ∧ Agree ops lt Ls a b ∧ Envs ops lt E V st.env
section rest
variable {R : Type} {call : CallK R} {ops : Array Oper} {len q : Nat} {lt : List Bool} {Q : Exit → Act → World → Prop} {K : St → Option R} {out : R}
variable {V : Nat → AV} {S : Nat → List Slot} {E : Nat → List AV} {HH : Nat → Heap}
variable (hc : CallS P call) (cx : CtxOk P C) (dk : DrawOk ops len q lt) (hQ : ∀ st' a' w', K st' = some out → Sim LN w0 F0 X st' a' w' → Q .normal a' w')
variable (hV : ∀ j o, lt.getD j false = true → ops.toList[j]? = some o → opQ C (E j) [] 0 o = some (true, V j, []))
include hc cx dk hV
theorem late_exec {Ls : Nat → Prop} {i : Nat} {o : Oper} (hli : lt.getD i false = true) (ho : ops.toList[i]? = some o) (hnl : ¬ Ls i) (hdc : ∀ i o, ops.toList[i]? = some o → Ls i → ∀ j ∈ edges o, Ls j) (he : ∀ j ∈ edges o, Ls j) (h : P3 LN X w0 F0 ops lt E V st Ls a w) :
    ∃ v', (execOp a.eval o).run P w = .ok (.value v') w ∧ P3 LN X w0 F0 ops lt E V st (fun j => j = i ∨ Ls j) (a.put o.dst v') w := by
  obtain ⟨b, ⟨F, β, gd, hd, hsz, henv⟩, hag, henvs⟩ := h
  obtain ⟨hgd, t, hdt, hown, hearly, hrest⟩ := dk.late i o hli ho
  have hbits := bit_mem dk.lt hdc i o ho he
  have hiq : i < q := by rw [← dk.len_]; exact late_lt hli
  have hlook : ∀ u ∈ o.looksAt ops, RepA F w β st.heap (envAt (E i) u) (a.tmps.getD u undef) := fun u hu => by
    rw [← (henvs i o hli ho).1 u hu, hag.at_ u fun j oj hlj hnj hoj hdj => ?_]
    · exact henv u
    · by_cases hij : j = i
      · subst hij
        rw [ho] at hoj
        injection hoj with hoj
        subst hoj
        rw [hdt] at hdj
        injection hdj with hdj
        subst hdj
        exact hown hu
      · have hjq : j < q := by rw [← dk.len_]; exact late_lt hlj
        exact hnj (hbits j (hearly j oj u hjq hij hoj hdj hu))
  obtain ⟨v', hr, rv⟩ := late_run cx gd (fun x hx => opr_ok x fun u e => hlook u (by
      subst e
      unfold Oper.looksAt
      refine List.mem_append.2 (.inl ?_)
      exact List.mem_filterMap.2 ⟨_, by simpa using hx, rfl⟩)) (hV i o hli ho)
  refine ⟨v', hr, b.put o.dst v', ⟨F, β, gd, ⟨by rw [hdt]; exact hd.1, hd.2⟩, by rw [hdt]; simp [Act.put, hsz], fun u => ?_⟩, ?_, henvs⟩
  · rw [hdt, put_at']
    split
    · rename_i hx
      rw [← hx.1, (henvs i o hli ho).2 t hdt]
      exact rv
    · exact henv u
  · rw [hdt]
    refine ⟨hag.defers, by simp [Act.put, hag.size], fun u hu => ?_⟩
    rw [put_at', put_at', hag.size]
    split
    · rfl
    · rename_i hx
      by_cases htu : t = u
      · have hb : ¬ t < b.tmps.size := fun h => hx ⟨htu, h⟩
        subst htu
        have ha : ¬ t < a.tmps.size := by rw [hag.size]; exact hb
        simp [Array.getD_eq_getD_getElem?, ha, hb]
      · refine hag.at_ u fun j oj hlj hnj hoj => ?_
        by_cases hij : j = i
        · subst hij
          rw [ho] at hoj
          injection hoj with hoj
          subst hoj
          rw [hdt]
          exact fun e => htu (by injection e)
        · exact hu j oj hlj (fun h => h.elim hij hnj) hoj
theorem rest_one {Ls : Nat → Prop} {i : Nat} {o : Oper} {rest : List Oper} (hiq : q ≤ i) (ho : ops.toList[i]? = some o) (hdc : ∀ i o, ops.toList[i]? = some o → Ls i → ∀ j ∈ edges o, Ls j) (he : ∀ j ∈ edges o, Ls j) (h : opsK C call ops 0 [] (o :: rest) st K = some out) (hp : P3 LN X w0 F0 ops lt E V st Ls a w) {N : Act → World → Prop}
    (hN : ∀ st' a' w', opsK C call ops 0 [] rest st' K = some out → P3 LN X w0 F0 ops lt E V st' Ls a' w' → N a' w') : if Region.wanted o (yielded ops a.tmps) then o.wp P a w N Q ∨ (o.asks P a w ∧ LetsOut Q) else N (a.put o.dst undef) w := by
  obtain ⟨b, hs, hag, henvs⟩ := hp
  have hbits := bit_mem dk.lt hdc i o ho he
  have hsame : ∀ u ∈ o.looksAt ops, a.tmps.getD u undef = b.tmps.getD u undef := fun u hu => hag.at_ u fun j oj hlj hnj hoj hdj => by
    obtain ⟨_, t, hdt, _, _, hrest⟩ := dk.late j oj hlj hoj
    rw [hdt] at hdj
    injection hdj with hdj
    subst hdj
    exact hnj (hbits j ((hrest i o hiq ho).2.1 hu))
  have hy : Region.wanted o (yielded ops a.tmps) = Region.wanted o (yielded ops b.tmps) := by
    unfold Region.wanted
    cases hg : o.guard with
    | none => rfl
    | some p =>
      obtain ⟨j, want⟩ := p
      simp only []
      have : yielded ops a.tmps j = yielded ops b.tmps j := by
        unfold yielded
        cases hd : (ops[j]?).bind (·.dst) with
        | none => rfl
        | some d =>
          simp only [Option.bind_some]
          have h1 := hsame d (by unfold Oper.looksAt; refine List.mem_append.2 (.inr ?_); rw [hg]; simp [hd])
          have hsz := hag.size
          rw [Array.getD_eq_getD_getElem?, Array.getD_eq_getD_getElem?] at h1
          by_cases hl : d < a.tmps.size
          · have hl' : d < b.tmps.size := hsz ▸ hl
            simp [hl, hl'] at h1 ⊢
            rw [h1]
          · have hl' : ¬ d < b.tmps.size := hsz ▸ hl
            simp [hl, hl']
      rw [this]
  have hst := opsK_step (N := fun b' w' => ∀ a', Agree ops lt Ls a' b' → N a' w') (Q := fun _ _ _ => False) hc cx h hs fun st' b' w' h' ⟨v, hv⟩ hs' a' hag' => hN st' a' w' h' ⟨b', hs', hag', fun j oj hlj hoj => by
    obtain ⟨_, t, hdt, _, _, hrest⟩ := dk.late j oj hlj hoj
    obtain ⟨r1, _, r3⟩ := hrest i o hiq ho
    have hput : ∀ u, o.dst ≠ some u → envAt st'.env u = envAt st.env u := fun u hu => by
      rw [hv]
      cases hd : o.dst with
      | none => rfl
      | some d =>
        simp only [put, envAt, List.getD_eq_getElem?_getD]
        rw [List.getElem?_set_ne (fun e => hu (by rw [hd, e]))]
    exact ⟨fun u hu => by rw [hput u (fun e => r3 u e hu)]; exact (henvs j oj hlj hoj).1 u hu, fun t' ht' => by rw [hdt] at ht'; injection ht' with ht'; subst ht'; rw [hput t r1]; exact (henvs j oj hlj hoj).2 t hdt⟩⟩
  rw [hy]
  split
  · rename_i hw
    rw [if_pos hw] at hst
    rcases hst with hst | ⟨_, _, _, hst⟩
    · left
      have hsel : ∀ cs bl, o.op ≠ .select cs bl := fun cs bl e => by
        unfold Oper.wp at hst
        simp only [execOp, e, Sem.run_bind] at hst
        generalize (Array.mapM (m := Sem) _ cs).run P w = r at hst
        cases r with
        | ok x w' => simp [Result.andThen, Oper.upon] at hst
        | halt x w' => cases x <;> simp [Result.andThen, Oper.upon] at hst
      have hop : execOp a.eval o = execOp b.eval o := execOp_congr o hsel fun x hx => by
        cases x with
        | tmp t => exact hsame t (by unfold Oper.looksAt; refine List.mem_append.2 (.inl ?_); exact List.mem_filterMap.2 ⟨_, by simpa using hx, rfl⟩)
        | _ => rfl
      exact wp_swap (R := Agree ops lt Ls) hop (fun v => hag.put _ _) (fun d => Agree.put (a := { a with defers := d :: a.defers }) (b := { b with defers := d :: b.defers }) ⟨by simp [hag.defers], hag.size, hag.at_⟩ _ _) (fun a' b' w' hr hn => hn a' hr) hst
    · exact hst.elim
  · rename_i hw
    rw [if_neg hw] at hst
    exact hst _ (hag.put _ _)
include hQ
/-- Behind the quiet ones. -/
theorem rest_ok : ∀ (fuel k : Nat) (listed : Array Bool) (st : St) (a : Act) (w : World), listed.size = ops.size → (∀ i o, ops.toList[i]? = some o → Lst listed i → ∀ j ∈ edges o, Lst listed j) → (∀ i, q ≤ i → (Lst listed i ↔ i < k)) → (∀ i, i < q → Lst listed i ∨ lt.getD i false = true) → q ≤ k → k ≤ ops.size → cnt ops.size listed ≤ fuel → opsK C call ops 0 [] (ops.toList.drop k) st K = some out → P3 LN X w0 F0 ops lt E V st (Lst listed) a w → wpAny P .any ops Q fuel listed a w := by
  intro fuel
  have fin : ∀ (k : Nat) (listed : Array Bool) (st : St) (a : Act) (w : World), listed.size = ops.size → (∀ i, q ≤ i → (Lst listed i ↔ i < k)) → q ≤ k → k ≤ ops.size → opsK C call ops 0 [] (ops.toList.drop k) st K = some out → P3 LN X w0 F0 ops lt E V st (Lst listed) a w → (∀ i, i < ops.size → Lst listed i) → Q .normal a w := by
    intro k listed st a w hsz hL hqk hk h hp hall
    have hkn : k = ops.size := by
      rcases Nat.lt_or_ge k ops.size with hlt | hge
      · have := (hL k hqk).1 (hall k hlt); omega
      · omega
    rw [List.drop_of_length_le (by simp; omega)] at h
    simp only [opsK] at h
    obtain ⟨b, hs, hag, _⟩ := hp
    have hab : a = b := by
      have ht : a.tmps = b.tmps := by
        apply Array.ext hag.size
        intro i h1 h2
        have := hag.at_ i fun j o hlj hnj ho => absurd (hall j (by have := (List.getElem?_eq_some_iff.1 ho).1; simpa using this)) hnj
        simpa [Array.getD_eq_getD_getElem?, h1, h2] using this
      have hd := hag.defers
      cases a; cases b
      simp only at ht hd
      subst ht hd
      rfl
    subst hab
    exact hQ st a w h hs
  have none_left : ∀ (listed : Array Bool), listed.size = ops.size → Region.ready .any ops listed = [] → ∀ i, i < ops.size → Lst listed i := by
    intro listed hsz hr i
    induction i using Nat.strongRecOn with
    | _ i ih =>
      intro hi
      refine Classical.byContradiction fun hl => ?_
      have hko : i < ops.toList.length := by simpa using hi
      have := (ready_iff (i := i) hsz).2 ⟨_, List.getElem?_eq_getElem hko, hl, fun j hj => ih j (dk.lt i _ (List.getElem?_eq_getElem hko) j hj) (by have := dk.lt i _ (List.getElem?_eq_getElem hko) j hj; omega)⟩
      rw [hr] at this
      simp at this
  induction fuel with
  | zero =>
    intro k listed st a w hsz hdc hL hlate hqk hk hf h hp
    have hall : ∀ i, i < ops.size → Lst listed i := fun i hi => Classical.byContradiction fun hl => by have := cnt_pos (n := ops.size) hi hl; omega
    refine ⟨?_, fin k listed st a w hsz hL hqk hk h hp hall⟩
    rw [List.eq_nil_iff_forall_not_mem]
    intro i hi
    obtain ⟨o, ho, hl, _⟩ := (ready_iff hsz).1 hi
    have := (List.getElem?_eq_some_iff.1 ho).1
    exact hl (hall i (by simpa using this))
  | succ fuel ih =>
    intro k listed st a w hsz hdc hL hlate hqk hk hf h hp
    refine ⟨fun hr => fin k listed st a w hsz hL hqk hk h hp (none_left listed hsz hr), fun i hi => ?_⟩
    obtain ⟨o, ho, hl, he⟩ := (ready_iff hsz).1 hi
    have hin : i < ops.size := by have := (List.getElem?_eq_some_iff.1 ho).1; simpa using this
    have hset : ∀ j, Lst (listed.setIfInBounds i true) j ↔ j = i ∨ Lst listed j := fun j => lst_set (by omega)
    have hLs : (Lst (listed.setIfInBounds i true)) = (fun j => j = i ∨ Lst listed j) := funext fun j => propext (hset j)
    have hdc' : ∀ j oj, ops.toList[j]? = some oj → Lst (listed.setIfInBounds i true) j → ∀ k' ∈ edges oj, Lst (listed.setIfInBounds i true) k' := fun j oj hoj hlj k' hk' => by
      rcases (hset j).1 hlj with rfl | hlj
      · rw [ho] at hoj
        injection hoj with hoj
        subst hoj
        exact (hset k').2 (.inr (he k' hk'))
      · exact (hset k').2 (.inr (hdc j oj hoj hlj k' hk'))
    have hcn := cnt_set hin hsz hl
    unfold wpOp
    have ho' : ops[i]? = some o := by rwa [Array.getElem?_toList] at ho
    rw [ho']
    simp only []
    by_cases hiq : i < q
    · have hli : lt.getD i false = true := (hlate i hiq).resolve_left hl
      obtain ⟨hgd, _⟩ := dk.late i o hli ho
      obtain ⟨v', hr, hp'⟩ := late_exec hc cx dk hV hli ho hl hdc he hp
      rw [if_pos (by simp [Region.wanted, hgd])]
      left
      unfold Oper.wp
      rw [hr]
      refine ih k _ st _ w (by simpa using hsz) hdc' (fun j hj => ?_) (fun j hj => ?_) hqk hk (by omega) h (by rw [hLs]; exact hp')
      · rw [hset j, hL j hj]
        constructor
        · rintro (e | e)
          · omega
          · exact e
        · exact .inr
      · rcases hlate j hj with e | e
        · exact .inl ((hset j).2 (.inr e))
        · exact .inr e
    · have hqi : q ≤ i := by omega
      have hik : i = k := by
        have hge : k ≤ i := Nat.le_of_not_lt fun h => hl ((hL i hqi).2 h)
        by_cases hgt : k < i
        · rcases dk.tail i o ho hqi k hgt with hb | hb
          · have := bit_mem dk.lt hdc i o ho he k hb
            have := (hL k hqk).1 this
            omega
          · have := late_lt hb
            rw [dk.len_] at this
            omega
        · omega
      subst hik
      have hdrop : ops.toList.drop i = o :: ops.toList.drop (i + 1) := by
        have := List.drop_eq_getElem_cons (l := ops.toList) (i := i) (by simpa using hin)
        rw [this]
        congr 1
        rw [List.getElem?_eq_getElem (by simpa using hin)] at ho
        injection ho
      rw [hdrop] at h
      refine rest_one hc cx dk hV hqi ho hdc he h hp fun st' a' w' h' hp' => ih (i + 1) _ st' a' w' (by simpa using hsz) hdc' (fun j hj => by rw [hset j, hL j hj]; omega) (fun j hj => ?_) (by omega) (by omega) (by omega) h' ?_
      · rcases hlate j hj with e | e
        · exact .inl ((hset j).2 (.inr e))
        · exact .inr e
      · obtain ⟨b, hs, hag, henvs⟩ := hp'
        refine ⟨b, hs, ⟨hag.defers, hag.size, fun t ht => hag.at_ t fun j oj hlj hnj hoj => ht j oj hlj (fun h => ?_) hoj⟩, henvs⟩
        rcases (hset j).1 h with e | e
        · have := late_lt hlj
          rw [dk.len_] at this
          omega
        · exact hnj e
end rest
section region
variable {R : Type} {call : CallK R} {ops : Array Oper} {len q : Nat} {lt : List Bool} {Q : Exit → Act → World → Prop} {K : St → Option R} {out : R}
variable {rts : List CV} {V : Nat → AV} {S : Nat → List Slot} {E : Nat → List AV} {HH : Nat → Heap}
variable (hc : CallS P call) (cx : CtxOk P C) (dk : DrawOk ops len q lt) (hQ : ∀ st' a' w', K st' = some out → Sim LN w0 F0 X st' a' w' → Q .normal a' w')
variable (tr : QT P C ops ops.toList env H q lt V S E HH) (hlen : env.length = len)
include hc cx dk tr hlen
/-- What a quiet operation looks at. -/
theorem quiet_look {L : Nat → Prop} {i : Nat} {o : Oper} (hi : i < q) (ho : ops.toList[i]? = some o) (hnl : ¬ L i) (hdc : ∀ i o, ops.toList[i]? = some o → L i → ∀ j ∈ edges o, L j) (he : ∀ j ∈ edges o, L j) {F : Nat → Prop} {β : Bd}
    (h0 : ∀ t, (∀ i o, i < q → L i → ops.toList[i]? = some o → o.dst ≠ some t) → RepA F w β (HH q) (envAt env t) (a.tmps.getD t undef)) (hV : ∀ i o t, i < q → L i → ops.toList[i]? = some o → o.dst = some t → RepA F w β (HH q) (V i) (a.tmps.getD t undef)) : ∀ t ∈ o.looksAt ops, RepA F w β (HH q) (envAt (E i) t) (a.tmps.getD t undef) := by
  have hq : q ≤ ops.toList.length := by have := dk.le; simpa using this
  have hbits := bit_mem dk.lt hdc i o ho he
  intro t ht
  rcases tr_env tr hq hlen dk.dst (show i ≤ q by omega) t with ⟨j, oj, hj, hoj, hdj, hv⟩ | ⟨hno, hv⟩
  · rw [hv]
    rcases dk.look i j o oj t hi (by omega) (by omega) ho hoj hdj ht with hb | hb
    · exact hV j oj t (by omega) (hbits j hb) hoj hdj
    · have := bit_lt dk.lt j oj hoj i hb
      omega
  · rw [hv]
    refine h0 t fun j oj hj hLj hoj hdj => ?_
    have hne : i ≠ j := fun e => hnl (e ▸ hLj)
    rcases dk.look i j o oj t hi hj hne ho hoj hdj ht with hb | hb
    · have := bit_lt dk.lt i o ho j hb
      exact hno j oj this hoj hdj
    · exact hnl (bit_mem dk.lt hdc j oj hoj (hdc j oj hoj hLj) i hb)
/-- A quiet operation comes. -/
theorem quiet_one {L : Nat → Prop} {i : Nat} {o : Oper} (hi : i < q) (ho : ops.toList[i]? = some o) (hnl : ¬ L i) (hdc : ∀ i o, ops.toList[i]? = some o → L i → ∀ j ∈ edges o, L j) (he : ∀ j ∈ edges o, L j) (h : P1 LN X rts w0 F0 ops.toList env H len q V S HH L a w) {Q : Exit → Act → World → Prop} {N : Act → World → Prop}
    (hN : ∀ a' w', P1 LN X rts w0 F0 ops.toList env H len q V S HH (fun j => j = i ∨ L j) a' w' → N a' w') : (lt.getD i false = true → ∃ v', (execOp a.eval o).run P w = .ok (.value v') w ∧ N (a.put o.dst v') w) ∧ if Region.wanted o (yielded ops a.tmps) then o.wp P a w N Q ∨ (o.asks P a w ∧ LetsOut Q) else N (a.put o.dst undef) w := by
  obtain ⟨F, β, gd, hd, hsz, hdom, h0, hV⟩ := h
  have hq : q ≤ ops.toList.length := by have := dk.le; simpa using this
  obtain ⟨hE, hH, hg⟩ := tr.step i o hi ho
  have hlook := quiet_look hc cx dk tr hlen hi ho hnl hdc he h0 hV
  -- behind it
  have fin : ∀ {v' : Value} {w' : World} {F' : Nat → Prop} {β' : Bd}, Good LN w0 w' F0 F' β' (HH q) → Keeps F F' w w' β β' (HH q) (HH q) → RepA F' w' β' (HH q) (V i) v' → (∀ h, β' h ≠ none → β h ≠ none ∨ ((HH i).length ≤ h ∧ h < (HH i).length + (S i).length)) → N (a.put o.dst v') w' := by
    intro v' w' F' β' g2 k2 r d2
    refine hN _ _ ⟨F', β', g2, ⟨by cases o.dst <;> exact hd.1, hd.2.mono fun _ _ => RepV.mono k2⟩, by cases o.dst <;> simp [Act.put, hsz], fun h hh => ?_, fun t ht => ?_, fun j oj t hj hL hoj hdj => ?_⟩
    · rcases d2 h hh with h1 | h1
      · rcases hdom h h1 with h2 | ⟨j, hj, hL, h2⟩
        · exact .inl h2
        · exact .inr ⟨j, hj, .inr hL, h2⟩
      · exact .inr ⟨i, hi, .inl rfl, h1⟩
    · rw [put_get (ht i o hi (.inl rfl) ho)]
      exact (h0 t fun j oj hj hL hoj => ht j oj hj (.inr hL) hoj).mono k2
    · rcases hL with rfl | hL
      · rw [ho] at hoj
        injection hoj with hoj
        subst hoj
        rw [hdj, put_self (by rw [hsz]; exact dk.dst j o t ho hdj)]
        exact r
      · have hne : i ≠ j := fun e => hnl (e ▸ hL)
        rw [put_get (dk.one i j o oj t hi hj hne ho hoj hdj)]
        exact (hV j oj t hj hL hoj hdj).mono k2
  have hfree : ∀ j, j < (S i).length → β ((HH i).length + j) = none := by
    intro j hj
    cases hb : β ((HH i).length + j) with
    | none => rfl
    | some u =>
      rcases hdom _ (by rw [hb]; simp) with h2 | ⟨k, hk, hL, h2, h3⟩
      · obtain ⟨r, e⟩ := tr_pre tr hq (Nat.zero_le i) (show i ≤ q by omega)
        rw [e, tr.h0, List.length_append] at h2
        omega
      · have hne : k ≠ i := fun e => hnl (e ▸ hL)
        rcases Nat.lt_or_gt_of_ne hne with hlt | hlt
        · have := tr_len tr hq hlt (show i ≤ q by omega); omega
        · have := tr_len tr hq hlt (show k ≤ q by omega); omega
  have qs : QS P C o (E i) (HH i) (V i) (S i) → o.wp P a w N Q := fun hqs =>
    qs_ok hqs cx gd (tr_sub tr hq (show i ≤ q by omega)) hfree (fun j s hs => tr_slot tr hq hi hs) (fun x hx => opr_ok x fun t e => hlook t (by
      subst e
      unfold Oper.looksAt
      refine List.mem_append.2 (.inl ?_)
      exact List.mem_filterMap.2 ⟨_, by simpa using hx, rfl⟩)) _ _ fun v' w' F' β' g2 k2 r d2 => fin g2 k2 r d2
  have hx0 : ∀ x ∈ o.op.operands, OpOk F w β (HH q) (E i) a x := fun x hx => opr_ok x fun t e => hlook t (by
      subst e
      unfold Oper.looksAt
      refine List.mem_append.2 (.inl ?_)
      exact List.mem_filterMap.2 ⟨_, by simpa using hx, rfl⟩)
  rcases hg with ⟨hlf, hg⟩ | ⟨hlt, hgd, hql, hs0⟩
  rotate_left
  · obtain ⟨v', hr, rv⟩ := late_run cx gd hx0 hql
    have hn := fin gd ⟨fun _ h => h, fun _ _ => rfl, fun _ _ h => h, fun h s hs => ⟨s, hs, like_refl s⟩⟩ rv fun h hh => .inl hh
    refine ⟨fun _ => ⟨v', hr, hn⟩, ?_⟩
    rw [if_pos (by simp [Region.wanted, hgd])]
    left
    unfold Oper.wp
    rw [hr]
    exact hn
  refine ⟨fun h => by rw [hlf] at h; simp at h, ?_⟩
  rcases hg with ⟨hg, hqs⟩ | ⟨j, want, d, b, hg, hdst, hb, hor⟩ | ⟨j, want, d, hg, hdst, hb, hv, hs⟩
  · rw [if_pos (by simp [Region.wanted, hg])]
    exact .inl (qs hqs)
  · have hlkd : d ∈ o.looksAt ops := by
      unfold Oper.looksAt
      refine List.mem_append.2 (.inr ?_)
      rw [hg]
      simp [hdst]
    have hyield : yielded ops a.tmps j = some b := by
      unfold yielded
      rw [hdst]
      simp only [Option.bind_some, env_bool (hlook d hlkd) hb]
    have hwant : Region.wanted o (yielded ops a.tmps) = (b == want) := by
      simp [Region.wanted, hg, hyield]
    rcases hor with ⟨rfl, hqs⟩ | ⟨hne, hv, hs⟩
    · rw [if_pos (by simp [hwant])]
      exact .inl (qs hqs)
    · rw [if_neg (by simp [hwant, hne])]
      exact fin gd ⟨fun _ h => h, fun _ _ => rfl, fun _ _ h => h, fun h s hs => ⟨s, hs, like_refl s⟩⟩ (by rw [hv]; exact rep_skip) fun h hh => .inl hh
  · have hlkd : d ∈ o.looksAt ops := by
      unfold Oper.looksAt
      refine List.mem_append.2 (.inr ?_)
      rw [hg]
      simp [hdst]
    rw [if_neg (by simp [Region.wanted, hg, yield_skip hdst (hlook d hlkd) hb])]
    exact fin gd ⟨fun _ h => h, fun _ _ => rfl, fun _ _ h => h, fun h s hs => ⟨s, hs, like_refl s⟩⟩ (by rw [hv]; exact rep_skip) fun h hh => .inl hh
/-- What may come late is there already, as it were. -/
theorem late_all : ∀ (n : Nat) (L : Nat → Prop) (a : Act) (w : World), (∀ i o, ops.toList[i]? = some o → L i → ∀ j ∈ edges o, L j) → (∀ i, i < q → L i ∨ lt.getD i false = true) → (∀ i, i < q - n → L i) → P1 LN X rts w0 F0 ops.toList env H len q V S HH L a w →
    ∃ b, (∃ L' : Nat → Prop, (∀ i, i < q → L' i) ∧ P1 LN X rts w0 F0 ops.toList env H len q V S HH L' b w) ∧ Agree ops lt L a b := by
  have hq : q ≤ ops.toList.length := by have := dk.le; simpa using this
  intro n
  induction n with
  | zero => intro L a w hdc hlate hlow h; exact ⟨a, ⟨L, fun i hi => hlow i (by omega), h⟩, rfl, rfl, fun t _ => rfl⟩
  | succ n ih =>
    intro L a w hdc hlate hlow h
    by_cases hn : q - n = q - (n + 1)
    · exact ih L a w hdc hlate (fun i hi => hlow i (by omega)) h
    · have hiq : q - (n + 1) < q := by omega
      by_cases hL : L (q - (n + 1))
      · refine ih L a w hdc hlate (fun i hi => ?_) h
        by_cases e : i = q - (n + 1)
        · rw [e]; exact hL
        · exact hlow i (by omega)
      · have hli := (hlate _ hiq).resolve_left hL
        have ho : ops.toList[q - (n + 1)]? = some ops.toList[q - (n + 1)] := List.getElem?_eq_getElem (by omega)
        generalize ops.toList[q - (n + 1)] = o at ho
        have he : ∀ j ∈ edges o, L j := fun j hj => hlow j (dk.lt _ o ho j hj)
        obtain ⟨h1, _⟩ := quiet_one hc cx dk tr hlen (Q := fun _ _ _ => False) hiq ho hL hdc he h (fun a' w' h' => h')
        obtain ⟨v', hr, h2⟩ := h1 hli
        obtain ⟨b, hb, hag⟩ := ih (fun j => j = q - (n + 1) ∨ L j) _ w (fun i oi hoi hl j hj => by
          rcases hl with rfl | hl
          · rw [ho] at hoi
            injection hoi with hoi
            subst hoi
            exact .inr (he j hj)
          · exact .inr (hdc i oi hoi hl j hj)) (fun i hi => (hlate i hi).imp .inr id) (fun i hi => by
            by_cases e : i = q - (n + 1)
            · exact .inl e
            · exact .inr (hlow i (by omega))) h2
        obtain ⟨_, t, hdt, _⟩ := dk.late _ o hli ho
        refine ⟨b, hb, by rw [← hag.defers]; cases o.dst <;> rfl, by rw [← hag.size]; cases o.dst <;> simp [Act.put], fun u hu => ?_⟩
        rw [← hag.at_ u fun j oj hlj hnj hoj => hu j oj hlj (fun h => hnj (.inr h)) hoj]
        exact (put_get (hu _ o hli hL ho)).symm
include hQ
theorem quiet_all (hk : opsK C call ops 0 [] (ops.toList.drop q) ⟨E q, HH q, rts⟩ K = some out) : ∀ (fuel : Nat) (listed : Array Bool) (a : Act) (w : World), listed.size = ops.size → (∀ i o, ops.toList[i]? = some o → Lst listed i → ∀ j ∈ edges o, Lst listed j) → (∀ i, Lst listed i → i < q) → cnt ops.size listed ≤ fuel →
    P1 LN X rts w0 F0 ops.toList env H len q V S HH (Lst listed) a w → wpAny P .any ops Q fuel listed a w := by
  have hq : q ≤ ops.toList.length := by have := dk.le; simpa using this
  have hV : ∀ j o, lt.getD j false = true → ops.toList[j]? = some o → opQ C (E j) [] 0 o = some (true, V j, []) := fun j o hlj ho => by
    have hjq : j < q := by rw [← dk.len_]; exact late_lt hlj
    rcases (tr.step j o hjq ho).2.2 with ⟨h, _⟩ | ⟨_, _, h, _⟩
    · rw [hlj] at h; simp at h
    · exact h
  have henvs : Envs ops lt E V (E q) := fun j o hlj ho => by
    have hjq : j < q := by rw [← dk.len_]; exact late_lt hlj
    obtain ⟨_, t, hdt, hown, hearly, _⟩ := dk.late j o hlj ho
    refine ⟨fun u hu => ?_, fun t' ht' => ?_⟩
    · rcases tr_env tr hq hlen dk.dst (Nat.le_refl q) u with ⟨k, ok, hk', hok, hdk, hv⟩ | ⟨hno, hv⟩
      · have hkj : k ≠ j := fun e => by
          subst e
          rw [ho] at hok
          injection hok with hok
          subst hok
          rw [hdt] at hdk
          injection hdk with hdk
          subst hdk
          exact hown hu
        have hbit := hearly k ok u hk' hkj hok hdk hu
        have hlt := bit_lt dk.lt j o ho k hbit
        rcases tr_env tr hq hlen dk.dst (show j ≤ q by omega) u with ⟨k2, ok2, hk2, hok2, hdk2, hv2⟩ | ⟨hno2, _⟩
        · have : k = k2 := Classical.byContradiction fun hne => dk.one k k2 ok ok2 u hk' (by omega) hne hok hok2 hdk2 hdk
          subst this
          rw [hv, hv2]
        · exact absurd hdk (hno2 k ok hlt hok)
      · rcases tr_env tr hq hlen dk.dst (show j ≤ q by omega) u with ⟨k2, ok2, hk2, hok2, hdk2, hv2⟩ | ⟨_, hv2⟩
        · exact absurd hdk2 (hno k2 ok2 (by omega) hok2)
        · rw [hv, hv2]
    · rcases tr_env tr hq hlen dk.dst (Nat.le_refl q) t' with ⟨k, ok, hk', hok, hdk, hv⟩ | ⟨hno, _⟩
      · have : k = j := Classical.byContradiction fun hne => dk.one k j ok o t' hk' hjq hne hok ho ht' hdk
        subst this
        exact hv
      · exact absurd ht' (hno j o hjq ho)
  have over : ∀ (fuel : Nat) (listed : Array Bool) (a : Act) (w : World), listed.size = ops.size → (∀ i o, ops.toList[i]? = some o → Lst listed i → ∀ j ∈ edges o, Lst listed j) → (∀ i, Lst listed i → i < q) → (∀ i, i < q → Lst listed i ∨ lt.getD i false = true) → cnt ops.size listed ≤ fuel → P1 LN X rts w0 F0 ops.toList env H len q V S HH (Lst listed) a w → wpAny P .any ops Q fuel listed a w := by
    intro fuel listed a w hsz hdc hlt hall hcnt h
    obtain ⟨b, ⟨L', hL', hP⟩, hag⟩ := late_all hc cx dk tr hlen q (Lst listed) a w hdc hall (fun i hi => by omega) h
    obtain ⟨F, β, gd, hd, hsz', hdom, h0, hVV⟩ := hP
    refine rest_ok hc cx dk hQ hV fuel q listed _ a w hsz hdc (fun i hi => ⟨fun h => hlt i h, fun h => by omega⟩) hall (Nat.le_refl _) dk.le hcnt hk ⟨b, ⟨F, β, gd, hd, by rw [hsz']; exact (tr_envlen tr hq (Nat.le_refl _)).trans hlen |>.symm, fun t => ?_⟩, hag, henvs⟩
    rcases tr_env tr hq hlen dk.dst (Nat.le_refl q) t with ⟨j, oj, hj, hoj, hdj, hv⟩ | ⟨hno, hv⟩
    · show RepA F w β (HH q) (envAt (E q) t) _
      rw [hv]
      exact hVV j oj t hj (hL' j hj) hoj hdj
    · show RepA F w β (HH q) (envAt (E q) t) _
      rw [hv]
      exact h0 t fun j oj hj _ hoj => hno j oj hj hoj
  intro fuel
  induction fuel with
  | zero =>
    intro listed a w hsz hdc hlt hcnt h
    refine over 0 listed a w hsz hdc hlt (fun i hi => ?_) hcnt h
    refine .inl (Classical.byContradiction fun hl => ?_)
    have := cnt_pos (n := ops.size) (show i < ops.size by have := dk.le; omega) hl
    omega
  | succ fuel ih =>
    intro listed a w hsz hdc hlt hcnt h
    by_cases hall : ∀ i, i < q → Lst listed i ∨ lt.getD i false = true
    · exact over _ listed a w hsz hdc hlt hall hcnt h
    · have hex : ∃ i, i < q ∧ ¬ (Lst listed i ∨ lt.getD i false = true) := by
        refine Classical.byContradiction fun hn => hall fun i hi => ?_
        refine Classical.byContradiction fun hl => hn ⟨i, hi, hl⟩
      obtain ⟨k, hk1, hk2⟩ := hex
      have hk2a : ¬ Lst listed k := fun h => hk2 (.inl h)
      have hk2b : ¬ lt.getD k false = true := fun h => hk2 (.inr h)
      have none_left : Region.ready .any ops listed = [] → ∀ i, i < ops.size → Lst listed i := by
        intro hr i
        induction i using Nat.strongRecOn with
        | _ i ihi =>
          intro hi
          refine Classical.byContradiction fun hl => ?_
          have hko : i < ops.toList.length := by simpa using hi
          have := (ready_iff (i := i) hsz).2 ⟨_, List.getElem?_eq_getElem hko, hl, fun j hj => ihi j (dk.lt i _ (List.getElem?_eq_getElem hko) j hj) (by have := dk.lt i _ (List.getElem?_eq_getElem hko) j hj; omega)⟩
          rw [hr] at this
          simp at this
      refine ⟨fun hr => ?_, fun i hi => ?_⟩
      · exact absurd (none_left hr k (by have := dk.le; omega)) hk2a
      · obtain ⟨o, ho, hl, he⟩ := (ready_iff hsz).1 hi
        have hiq : i < q := by
          refine Classical.byContradiction fun hge => ?_
          rcases dk.tail i o ho (by omega) k (by omega) with hb | hb
          · exact hk2a (bit_mem dk.lt hdc i o ho he k hb)
          · exact hk2b hb
        have hin : i < ops.size := by have := dk.le; omega
        unfold wpOp
        rw [Array.getElem?_toList] at ho
        rw [ho]
        rw [← Array.getElem?_toList] at ho
        refine (quiet_one hc cx dk tr hlen hiq ho hl hdc he h fun a' w' h' => ?_).2
        have hset : ∀ j, Lst (listed.setIfInBounds i true) j ↔ j = i ∨ Lst listed j := fun j => lst_set (by omega)
        refine ih _ a' w' (by simpa using hsz) (fun j oj hoj hlj k' hk' => ?_) (fun j hj => ?_) ?_ ?_
        · rcases (hset j).1 hlj with rfl | hlj
          · rw [ho] at hoj
            injection hoj with hoj
            subst hoj
            exact (hset k').2 (.inr (he k' hk'))
          · exact (hset k').2 (.inr (hdc j oj hoj hlj k' hk'))
        · rcases (hset j).1 hj with rfl | hj
          · exact hiq
          · exact hlt j hj
        · have := cnt_set hin hsz hl; omega
        · have : (Lst (listed.setIfInBounds i true)) = (fun j => j = i ∨ Lst listed j) := funext fun j => propext (hset j)
          rw [this]
          exact h'
end region
/-- A region that draws its order. -/
theorem draw_ok {R : Type} {call : CallK R} {ops : Array Oper} {q : Nat} {lt : List Bool} {Q : Exit → Act → World → Prop} {K : St → Option R} {out : R} (hc : CallS P call) (cx : CtxOk P C) (hd : drawAt ops st.env.length = some (q, lt)) (h : opsK C call ops q lt ops.toList st K = some out) (hs : Sim LN w0 F0 X st a w)
    (hQ : ∀ st' a' w', K st' = some out → Sim LN w0 F0 X st' a' w' → Q .normal a' w') : wpAny P .any ops Q ops.size (Array.replicate ops.size false) a w := by
  have dk := drawAt_ok hd
  have hq : q ≤ ops.toList.length := by have := dk.le; simpa using this
  obtain ⟨V, S, E, HH, tr, hk⟩ := trace hc st.roots ops.toList q lt st.env st.heap K out h hq
  rw [List.drop_of_length_le (l := lt) (by rw [dk.len_]; exact Nat.le_refl _)] at hk
  obtain ⟨F, β, gd, hdf, hsz, henv⟩ := hs
  have hnone : ∀ i, ¬ Lst (Array.replicate ops.size false) i := fun i h => by
    unfold Lst at h
    rw [Array.getD_eq_getD_getElem?, Array.getElem?_replicate] at h
    split at h <;> simp at h
  obtain ⟨r, hr⟩ := tr_pre tr hq (Nat.zero_le q) (Nat.le_refl _)
  rw [tr.h0] at hr
  obtain ⟨g2, k2⟩ := good_more gd r
  rw [← hr] at g2 k2
  refine quiet_all hc cx dk hQ tr rfl hk ops.size _ a w (by simp) (fun i o _ hl => absurd hl (hnone i)) (fun i hl => absurd hl (hnone i)) ?_ ⟨F, β, g2, ⟨hdf.1, hdf.2.mono fun _ _ => RepV.mono k2⟩, hsz, fun h hh => ?_, fun t _ => (henv t).mono k2, fun i o t _ hl => absurd hl (hnone i)⟩
  · unfold cnt
    exact Nat.le_trans (List.length_filter_le _ _) (by simp)
  · left
    cases hb : β h with
    | none => exact absurd hb hh
    | some u => exact bound_lt gd hb
end
end Go.Proofs.Ytanpdkllnmeenaa.Am
namespace Go.Proofs.Ytanpdkllnmeenaa.Am
open Go Go.RowKit
set_option linter.unusedVariables false
set_option linter.unusedSectionVars false
section
variable {P : Program} {ops ops' : Array Oper} {Q : Exit → Act → World → Prop} {ord : List Nat}
theorem ord_perm (ops : Array Oper) : (ordOf ops).Nodup ∧ (∀ i, i ∈ ordOf ops ↔ i < ops.size) ∧ (ordOf ops).length = ops.size := by
  have key : ∀ (f : Nat → Bool) (l : List Nat), l.Nodup → (l.filter (fun i => !f i) ++ l.filter (fun i => f i)).Perm l := by
    intro f l hl
    induction l with
    | nil => simp
    | cons x l ih =>
      rw [List.nodup_cons] at hl
      rw [List.filter_cons, List.filter_cons]
      cases hf : f x with
      | true =>
        simp only [Bool.not_true, Bool.false_eq_true, if_false, if_true]
        exact List.perm_middle.trans ((ih hl.2).cons x)
      | false =>
        simp only [Bool.not_false, Bool.false_eq_true, if_false, if_true]
        exact (ih hl.2).cons x
  have h := key (fun i => (depE ops.toList []).getD i false) (List.range ops.size) List.nodup_range
  refine ⟨h.nodup_iff.2 List.nodup_range, fun i => ?_, ?_⟩
  · rw [show i ∈ ordOf ops ↔ i ∈ List.range ops.size from h.mem_iff, List.mem_range]
  · rw [show (ordOf ops).length = _ from h.length_eq, List.length_range]
section
variable (hn : ord.Nodup) (hm : ∀ i, i ∈ ord ↔ i < ops.size) (hl : ord.length = ops.size)
include hn hm hl
theorem pos_at {i : Nat} (h : i < ops.size) : (posOf ord).getD i ops.size = ord.idxOf i := by
  unfold posOf
  rw [List.getD_eq_getElem?_getD, List.getElem?_map, List.getElem?_range (by omega)]
  rfl
theorem pos_out {i : Nat} (h : ops.size ≤ i) : (posOf ord).getD i ops.size = ops.size := by
  unfold posOf
  rw [List.getD_eq_getElem?_getD, List.getElem?_eq_none (by simp; omega)]
  rfl
theorem pos_lt {i : Nat} (h : i < ops.size) : ord.idxOf i < ops.size := by
  rw [← hl]
  exact List.idxOf_lt_length_of_mem ((hm i).2 h)
theorem reord_list : (reord ord ops).toList = ord.map fun i => renO (posOf ord) ops.size (ops.getD i default) := by
  unfold reord
  simp only []
  have : ∀ l : List Nat, (∀ i ∈ l, i < ops.size) → (l.filterMap fun i => (ops[i]?).map (renO (posOf ord) ops.size)) = l.map fun i => renO (posOf ord) ops.size (ops.getD i default) := by
    intro l
    induction l with
    | nil => intro _; rfl
    | cons x l ih =>
      intro h
      have hx := h x List.mem_cons_self
      rw [List.filterMap_cons, Array.getElem?_eq_getElem hx, Option.map_some, List.map_cons, ih fun i hi => h i (List.mem_cons_of_mem _ hi), Array.getD_eq_getD_getElem?, Array.getElem?_eq_getElem hx]
      rfl
  exact this ord fun i hi => (hm i).1 hi
theorem reord_size : (reord ord ops).size = ops.size := by
  rw [← Array.length_toList, reord_list hn hm hl, List.length_map, hl]
theorem reord_at {i : Nat} {o : Oper} (h : ops[i]? = some o) : (reord ord ops)[ord.idxOf i]? = some (renO (posOf ord) ops.size o) := by
  have hi := (Array.getElem?_eq_some_iff.1 h).1
  have h1 := List.idxOf_lt_length_of_mem ((hm i).2 hi)
  rw [← Array.getElem?_toList, reord_list hn hm hl, List.getElem?_map, List.getElem?_eq_getElem h1, List.getElem_idxOf h1, Option.map_some, Array.getD_eq_getD_getElem?, h]
  rfl
theorem perm_ready {listed listed' : Array Bool} (h1 : listed.size = ops.size) (h2 : listed'.size = ops.size) (h3 : ∀ i, i < ops.size → listed'.getD (ord.idxOf i) false = listed.getD i false) {i : Nat} (hi : i < ops.size) :
    i ∈ Region.ready .any ops listed ↔ ord.idxOf i ∈ Region.ready .any (reord ord ops) listed' := by
  have hp := pos_lt hn hm hl hi
  have e3 : ∀ (b : Bool) (i : Nat), i < ops.size → listed'.getD (ord.idxOf i) b = listed.getD i b := fun b i hi => by
    have := h3 i hi
    have hp := pos_lt hn hm hl hi
    rw [Array.getD_eq_getD_getElem?, Array.getD_eq_getD_getElem?, Array.getElem?_eq_getElem (by omega), Array.getElem?_eq_getElem (by omega)] at this ⊢
    exact this
  obtain ⟨o, ho⟩ : ∃ o, ops[i]? = some o := ⟨_, Array.getElem?_eq_getElem hi⟩
  unfold Region.ready
  rw [List.mem_filter, List.mem_filter, List.mem_range, List.mem_range, reord_size hn hm hl, reord_at hn hm hl ho, ho, e3 true i hi]
  have e4 : (renO (posOf ord) ops.size o).after.all (fun e => !Region.binds .any e || listed'.getD e.on false) = o.after.all (fun e => !Region.binds .any e || listed.getD e.on false) := by
    show (o.after.map (renE (posOf ord) ops.size)).all _ = _
    rw [Array.all_map]
    congr 1
    funext e
    show (!Region.binds .any e || listed'.getD ((posOf ord).getD e.on ops.size) false) = _
    congr 1
    by_cases c : e.on < ops.size
    · rw [pos_at hn hm hl c]; exact h3 _ c
    · rw [pos_out hn hm hl (by omega), Array.getD_eq_getD_getElem?, Array.getD_eq_getD_getElem?, Array.getElem?_eq_none (by omega), Array.getElem?_eq_none (by omega)]
  simp only [Option.map_some, Option.getD_some, e4, hi, hp, true_and]
theorem perm_yield (tmps : Array Value) (j : Nat) : yielded (reord ord ops) tmps ((posOf ord).getD j ops.size) = yielded ops tmps j := by
  unfold yielded
  by_cases c : j < ops.size
  · obtain ⟨o, ho⟩ : ∃ o, ops[j]? = some o := ⟨_, Array.getElem?_eq_getElem c⟩
    rw [pos_at hn hm hl c, reord_at hn hm hl ho, ho]
    rfl
  · rw [pos_out hn hm hl (by omega), Array.getElem?_eq_none (by rw [reord_size hn hm hl]; omega), Array.getElem?_eq_none (by omega)]
theorem perm_op {i : Nat} (hi : i < ops.size) {K K' : Act → World → Prop} (hK : ∀ a w, K' a w → K a w) {a : Act} {w : World} (h : wpOp P (reord ord ops) Q (ord.idxOf i) K' a w) : wpOp P ops Q i K a w := by
  obtain ⟨o, ho⟩ : ∃ o, ops[i]? = some o := ⟨_, Array.getElem?_eq_getElem hi⟩
  have h := wpOp_mono hK h
  unfold wpOp at h ⊢
  rw [reord_at hn hm hl ho] at h
  rw [ho]
  simp only [] at h ⊢
  have e : Region.wanted (renO (posOf ord) ops.size o) (yielded (reord ord ops) a.tmps) = Region.wanted o (yielded ops a.tmps) := by
    unfold Region.wanted renO
    cases hg : o.guard with
    | none => simp
    | some p =>
      simp only [Option.map_some]
      rw [perm_yield hn hm hl]
  rw [e] at h
  exact h
theorem perm_any : ∀ (fuel : Nat) (listed listed' : Array Bool) (a : Act) (w : World), listed.size = ops.size → listed'.size = ops.size → (∀ i, i < ops.size → listed'.getD (ord.idxOf i) false = listed.getD i false) →
    wpAny P .any (reord ord ops) Q fuel listed' a w → wpAny P .any ops Q fuel listed a w := by
  have fwd : ∀ {listed listed' : Array Bool}, listed.size = ops.size → listed'.size = ops.size → (∀ i, i < ops.size → listed'.getD (ord.idxOf i) false = listed.getD i false) → Region.ready .any ops listed = [] → Region.ready .any (reord ord ops) listed' = [] := by
    intro listed listed' h1 h2 h3 h
    apply List.eq_nil_iff_forall_not_mem.2
    intro j hj
    have hjl : j < ops.size := by
      unfold Region.ready at hj
      rw [List.mem_filter, List.mem_range, reord_size hn hm hl] at hj
      exact hj.1
    have hjo : j < ord.length := by omega
    have hlt := (hm ord[j]).1 (List.getElem_mem hjo)
    have e : ord.idxOf ord[j] = j := hn.idxOf_getElem j hjo
    have := (perm_ready hn hm hl h1 h2 h3 hlt).2 (by rw [e]; exact hj)
    rw [h] at this
    cases this
  have bwd : ∀ {listed listed' : Array Bool}, listed.size = ops.size → listed'.size = ops.size → (∀ i, i < ops.size → listed'.getD (ord.idxOf i) false = listed.getD i false) → Region.ready .any (reord ord ops) listed' = [] → Region.ready .any ops listed = [] := by
    intro listed listed' h1 h2 h3 h
    apply List.eq_nil_iff_forall_not_mem.2
    intro j hj
    have hjl : j < ops.size := by
      unfold Region.ready at hj
      rw [List.mem_filter, List.mem_range] at hj
      exact hj.1
    have := (perm_ready hn hm hl h1 h2 h3 hjl).1 hj
    rw [h] at this
    cases this
  intro fuel
  induction fuel with
  | zero =>
    intro listed listed' a w h1 h2 h3 h
    exact ⟨bwd h1 h2 h3 h.1, h.2⟩
  | succ fuel ih =>
    intro listed listed' a w h1 h2 h3 h
    refine ⟨fun hr => h.1 (fwd h1 h2 h3 hr), fun i hi => ?_⟩
    have hil : i < ops.size := by
      unfold Region.ready at hi
      rw [List.mem_filter, List.mem_range] at hi
      exact hi.1
    have hp := pos_lt hn hm hl hil
    refine perm_op hn hm hl hil (fun a w => ih _ _ a w (by simp [h1]) (by simp [h2]) fun j hj => ?_) (h.2 _ ((perm_ready hn hm hl h1 h2 h3 hil).1 hi))
    have hpj := pos_lt hn hm hl hj
    rw [Array.getD_eq_getD_getElem?, Array.getD_eq_getD_getElem?, Array.getElem?_setIfInBounds, Array.getElem?_setIfInBounds]
    by_cases c : i = j
    · subst c
      rw [if_pos rfl, if_pos rfl, if_pos (by omega), if_pos (by omega)]
    · have c2 : ord.idxOf i ≠ ord.idxOf j := fun e => c (by
        have h4 := List.getElem_idxOf (List.idxOf_lt_length_of_mem ((hm i).2 hil))
        have h5 := List.getElem_idxOf (List.idxOf_lt_length_of_mem ((hm j).2 hj))
        rw [← h4, ← h5]
        congr 1)
      rw [if_neg c2, if_neg c]
      have := h3 j hj
      rw [Array.getD_eq_getD_getElem?, Array.getD_eq_getD_getElem?] at this
      exact this
end
end
end Go.Proofs.Ytanpdkllnmeenaa.Am
namespace Go.Proofs.Ytanpdkllnmeenaa.Am
open Go
set_option linter.unusedVariables false
set_option linter.unusedSectionVars false
set_option linter.unusedSimpArgs false
abbrev CallF := ∀ {R : Type}, CallK R
def DetC (call : CallF) : Prop := ∀ g vs {R : Type} (K : AV → Option R) (out : R), call g vs K = some out → ∃ r, K r = some out ∧ ∀ {R' : Type} (K' : AV → Option R'), call g vs K' = K' r
section
variable {C : Ctx} {call : CallF} (hd : DetC call) (hn : C.nxt = false)
include hd hn
theorem doK_det {q : Bool} {o : Oper} {env : List AV} {H : Heap} {R : Type} {K : AV → Heap → Option R} {out : R} (h : doK C (@call R) q o env H K = some out) : ∃ v H', K v H' = some out ∧ ∀ {R' : Type} (K' : AV → Heap → Option R'), doK C (@call R') q o env H K' = K' v H' := by
  have gen : ∀ {R : Type} {K : AV → Heap → Option R} {out : R}, (match opQ C env H H.length o with
      | some (b, v, sl) => match b with | true => K v (H ++ sl) | false => none
      | none => if q then none else match opE C env H o with
        | some (b, v, H') => match b with | true => K v H' | false => none
        | none => none) = some out → ∃ v H', K v H' = some out ∧ ∀ {R' : Type} (K' : AV → Heap → Option R'), (match opQ C env H H.length o with
      | some (b, v, sl) => match b with | true => K' v (H ++ sl) | false => none
      | none => if q then none else match opE C env H o with
        | some (b, v, H') => match b with | true => K' v H' | false => none
        | none => none) = K' v H' := fun {R K out} h => by
    cases hq : opQ C env H H.length o with
    | some p =>
      rw [hq] at h
      obtain ⟨b, v, sl⟩ := p
      cases b with
      | false => simp at h
      | true => exact ⟨v, _, h, fun K' => rfl⟩
    | none =>
      rw [hq] at h
      cases q with
      | true => simp at h
      | false =>
        simp only [Bool.false_eq_true, if_false] at h ⊢
        cases he : opE C env H o with
        | some p =>
          rw [he] at h
          obtain ⟨b, v, H'⟩ := p
          cases b with
          | false => simp at h
          | true => exact ⟨v, _, h, fun K' => rfl⟩
        | none => rw [he] at h; simp at h
  unfold doK at h ⊢
  cases ho : o.op
  case pick c x y =>
    simp only [ho] at h ⊢
    cases h1 : oprC env c with
    | none => rw [h1] at h; simp at h
    | some t =>
      rw [h1] at h
      cases t with
      | bool t =>
        cases t with
        | true =>
          simp only [] at h
          cases hv : opr env x with
          | none => rw [hv] at h; simp at h
          | some v => rw [hv] at h; exact ⟨v, H, h, fun K' => rfl⟩
        | false =>
          simp only [] at h
          cases hv : opr env y with
          | none => rw [hv] at h; simp at h
          | some v => rw [hv] at h; exact ⟨v, H, h, fun K' => rfl⟩
      | _ => simp at h
  case next x s =>
    simp only [ho, hn] at h
    simp at h
  case binOp op t x y r =>
    simp only [ho, hn] at h ⊢
    exact gen h
  case call c =>
    simp only [ho] at h ⊢
    cases hcal : c.callee with
    | value f =>
      simp only [hcal] at h ⊢
      cases h1 : callee env f with
      | none => rw [h1] at h; simp at h
      | some p =>
        obtain ⟨g, pa, pb⟩ := p
        rw [h1] at h
        simp only [] at h ⊢
        cases h0 : lentOf C env g c pa pb with
        | none => rw [h0] at h; simp at h
        | some l =>
          cases l with
          | nil =>
            rw [h0] at h
            simp only [] at h ⊢
            cases h2 : argsOf C env H c pa pb with
            | none => rw [h2] at h; simp at h
            | some p =>
              obtain ⟨vs, hs⟩ := p
              rw [h2] at h
              simp only [] at h ⊢
              obtain ⟨r, h3, hall⟩ := hd _ _ _ _ h
              split at h3
              · simp at h3
              · rename_i H1 h4
                exact ⟨_, _, h3, fun K' => (hall _).trans (by simp only [h4])⟩
          | cons l0 ls =>
            rw [h0] at h
            cases q with
            | true => simp at h
            | false =>
              simp only [] at h ⊢
              cases h2 : packOf C env H c pa pb (l0 :: ls) with
              | none => rw [h2] at h; simp at h
              | some p =>
                obtain ⟨pk, hs, ord⟩ := p
                rw [h2] at h
                simp only [] at h ⊢
                obtain ⟨r, h3, hall⟩ := hd _ _ _ _ h
                split at h3
                · simp at h3
                · rename_i r' H1 h4
                  exact ⟨_, _, h3, fun K' => (hall _).trans (by simp only [h4])⟩
    | invoke r m => simp only [hcal] at h ⊢; exact gen h
    | builtin b => simp only [hcal] at h ⊢; exact gen h
  all_goals (simp only [ho] at h ⊢; exact gen h)
theorem opsK_det {ops : Array Oper} : ∀ (l : List Oper) (q : Nat) (lt : List Bool) (st : St) {R : Type} (K : St → Option R) (out : R), opsK C (@call R) ops q lt l st K = some out → ∃ st', K st' = some out ∧ ∀ {R' : Type} (K' : St → Option R'), opsK C (@call R') ops q lt l st K' = K' st'
  | [], q, lt, st, R, K, out, h => ⟨st, h, fun K' => rfl⟩
  | o :: rest, q, lt, st, R, K, out, h => by
    simp only [opsK] at h ⊢
    have go : ∀ {env : List AV} {H : Heap} {b : Bool}, doK C (@call R) b o env H (fun v H => opsK C (@call R) ops (q - 1) lt.tail rest ⟨put env o.dst v, H, st.roots⟩ K) = some out → ∃ st', K st' = some out ∧ ∀ {R' : Type} (K' : St → Option R'), doK C (@call R') b o env H (fun v H => opsK C (@call R') ops (q - 1) lt.tail rest ⟨put env o.dst v, H, st.roots⟩ K') = K' st' := fun {env H b} h => by
      obtain ⟨v, H', h1, a1⟩ := doK_det hd hn h
      obtain ⟨st', h2, a2⟩ := opsK_det rest _ _ _ K out h1
      exact ⟨st', h2, fun K' => by rw [a1, a2]⟩
    have sk : ∀ {env : List AV} {H : Heap}, opsK C (@call R) ops (q - 1) lt.tail rest ⟨put env o.dst (.tup []), H, st.roots⟩ K = some out → ∃ st', K st' = some out ∧ ∀ {R' : Type} (K' : St → Option R'), opsK C (@call R') ops (q - 1) lt.tail rest ⟨put env o.dst (.tup []), H, st.roots⟩ K' = K' st' := fun {env H} h => opsK_det rest _ _ _ K out h
    cases hlt : lt.headD false with
    | true =>
      simp only [hlt] at h ⊢
      cases hg : o.guard with
      | some p => rw [hg] at h; simp at h
      | none =>
        simp only [hg] at h ⊢
        cases hq : opQ C st.env [] 0 o with
        | none => rw [hq] at h; simp at h
        | some p =>
          obtain ⟨b, v, sl⟩ := p
          cases sl with
          | cons x y => rw [hq] at h; simp at h
          | nil =>
            simp only [hq] at h ⊢
            cases b with
            | false => simp at h
            | true => exact opsK_det rest _ _ _ K out h
    | false =>
    simp only [hlt] at h ⊢
    split at h
    · rename_i hg
      try simp only [hg]
      exact go h
    · rename_i j want hg
      try simp only [hg]
      split at h
      · simp at h
      · rename_i d hdst
        try simp only [hdst]
        split at h
        case h_3 => simp at h
        case h_2 =>
          rename_i hb
          try simp only [hb]
          exact sk h
        rename_i b hb
        try simp only [hb]
        cases b <;> cases want <;> simp only [] at h ⊢
        · exact go h
        · exact sk h
        · exact sk h
        · exact go h
theorem loopK_det {B : ∀ {R : Type}, St → (Ex → St → Option R) → Option R} (hB : ∀ (st : St) {R : Type} (K : Ex → St → Option R) (out : R), B st K = some out → ∃ e st', K e st' = some out ∧ ∀ {R' : Type} (K' : Ex → St → Option R'), B st K' = K' e st') {l : LH} :
    ∀ (m : Nat) (st : St) {R : Type} (K : Ex → St → Option R) (out : R), loopK B l K m st = some out → ∃ e st', K e st' = some out ∧ ∀ {R' : Type} (K' : Ex → St → Option R'), loopK B l K' m st = K' e st'
  | 0, st, R, K, out, h => by simp [loopK] at h
  | m + 1, st, R, K, out, h => by
    simp only [loopK] at h ⊢
    obtain ⟨e, st', h1, a1⟩ := hB st _ _ h
    cases e with
    | normal =>
      simp only [] at h1
      split at h1
      · rename_i s hs
        obtain ⟨e2, st2, h2, a2⟩ := loopK_det hB m s K out h1
        exact ⟨e2, st2, h2, fun K' => by rw [a1]; simp only []; rw [hs]; exact a2 K'⟩
      · simp at h1
    | exit id =>
      simp only [] at h1
      split at h1
      · rename_i s hs
        exact ⟨.exit id, s, h1, fun K' => by rw [a1]; simp only []; rw [hs]⟩
      · simp at h1
    | ret =>
      simp only [] at h1
      split at h1
      · rename_i s hs
        exact ⟨.ret, s, h1, fun K' => by rw [a1]; simp only []; rw [hs]⟩
      · simp at h1
theorem aCode_det {fid : FuncId} {k : Nat} : ∀ (c : Code) (id : Nat) (st : St) {R : Type} (K : Ex → St → Option R) (out : R), aCode C fid (@call R) k c id st K = some out → ∃ e st', K e st' = some out ∧ ∀ {R' : Type} (K' : Ex → St → Option R'), aCode C fid (@call R') k c id st K' = K' e st' := by
  intro c
  induction c with
  | skip => intro id st R K out h; exact ⟨_, _, h, fun K' => rfl⟩
  | region i ops draw =>
    intro id st R K out h
    simp only [aCode] at h ⊢
    split at h
    · rename_i q lt hq
      obtain ⟨st', h1, a1⟩ := opsK_det hd hn _ _ _ _ _ _ h
      exact ⟨.normal, st', h1, fun K' => a1 (K' .normal)⟩
    · simp at h
  | seq a b iha ihb =>
    intro id st R K out h
    simp only [aCode] at h ⊢
    obtain ⟨e, st', h1, a1⟩ := iha _ _ _ _ h
    cases e with
    | normal =>
      obtain ⟨e2, st2, h2, a2⟩ := ihb _ _ _ _ h1
      exact ⟨e2, st2, h2, fun K' => by rw [a1]; exact a2 K'⟩
    | exit id => exact ⟨_, _, h1, fun K' => by rw [a1]⟩
    | ret => exact ⟨_, _, h1, fun K' => by rw [a1]⟩
  | cond c a b iha ihb =>
    intro id st R K out h
    simp only [aCode] at h ⊢
    split at h
    · split at h
      · rename_i t ht
        cases t with
        | true =>
          obtain ⟨e2, st2, h2, a2⟩ := iha _ _ _ _ h
          exact ⟨e2, st2, h2, fun K' => by simp only [ht]; exact a2 K'⟩
        | false =>
          obtain ⟨e2, st2, h2, a2⟩ := ihb _ _ _ _ h
          exact ⟨e2, st2, h2, fun K' => by simp only [ht]; exact a2 K'⟩
      · simp at h
    · rename_i t
      cases t with
      | true => exact iha _ _ _ _ h
      | false => exact ihb _ _ _ _ h
    · simp at h
  | block i c ih =>
    intro id st R K out h
    simp only [aCode] at h ⊢
    obtain ⟨e, st', h1, a1⟩ := ih _ _ _ _ h
    cases e with
    | normal => exact ⟨_, _, h1, fun K' => by rw [a1]⟩
    | ret => exact ⟨_, _, h1, fun K' => by rw [a1]⟩
    | exit j =>
      simp only [] at h1
      split at h1
      · rename_i hj; exact ⟨_, _, h1, fun K' => by rw [a1]; simp only [hj, if_true]⟩
      · rename_i hj; exact ⟨_, _, h1, fun K' => by rw [a1]; simp only [hj, if_false]⟩
  | loop c ih =>
    intro id st R K out h
    simp only [aCode] at h ⊢
    split at h
    · rename_i s hs
      obtain ⟨e, st', h1, a1⟩ := loopK_det hd hn (B := fun {R} st K => aCode C fid (@call R) k c id st K) (fun st {R} K out h => ih _ _ _ _ h) _ _ _ _ h
      exact ⟨e, st', h1, fun K' => a1 K'⟩
    · simp at h
  | exit i => intro id st R K out h; exact ⟨_, _, h, fun K' => rfl⟩
  | ret => intro id st R K out h; exact ⟨_, _, h, fun K' => rfl⟩
  | _ => intro id st R K out h; simp [aCode] at h
theorem aFun_det {fid : FuncId} {fn : Func} {k : Nat} {args : Pack} {R : Type} {K : AV → Option R} {out : R} (h : aFun C fid fn (@call R) k args K = some out) : ∃ r, K r = some out ∧ ∀ {R' : Type} (K' : AV → Option R'), aFun C fid fn (@call R') k args K' = K' r := by
  unfold aFun at h ⊢
  split at h
  · simp at h
  · rename_i c hb
    obtain ⟨e, st', h1, a1⟩ := aCode_det hd hn _ _ _ _ _ h
    cases e with
    | exit id => simp at h1
    | normal =>
      simp only [] at h1
      split at h1
      · rename_i r hr; exact ⟨r, h1, fun K' => by rw [a1]; simp only [hr]⟩
      · simp at h1
    | ret =>
      simp only [] at h1
      split at h1
      · rename_i r hr; exact ⟨r, h1, fun K' => by rw [a1]; simp only [hr]⟩
      · simp at h1
end
theorem aCallK_det (P : Program) (C : Ctx) (hn : C.nxt = false) (pr : Prims) : ∀ k, DetC (fun {R} g vs K => aCallK P C pr k (R := R) g vs K)
  | 0 => fun g vs R K out h => by simp [aCallK] at h
  | k + 1 => fun g vs R K out h => by
    simp only [aCallK] at h ⊢
    split at h
    · rename_i gf hg
      split at h
      · rename_i r hr; exact ⟨r, h, fun K' => rfl⟩
      · simp at h
    · rename_i hg
      split at h
      · simp at h
      · rename_i fn hf
        split at h
        · exact aFun_det (aCallK_det P C hn pr k) hn h
        · rename_i nf hnf
          split at h
          · rename_i r hr
            split at h
            · rename_i r' hr'; exact ⟨r', h, fun K' => rfl⟩
            · simp at h
          · simp at h
end Go.Proofs.Ytanpdkllnmeenaa.Am
namespace Go.Proofs.Ytanpdkllnmeenaa.Am
open Go Go.RowKit
set_option linter.unusedVariables false
set_option linter.unusedSectionVars false
set_option linter.unusedSimpArgs false
def exOf : Ex → Exit
  | .normal => .normal | .exit id => .exit id | .ret => .ret
def QQ {R : Type} (L : Nat → Prop) (X : List Value) (w0 : World) (F0 : Nat → Prop) (K : Ex → St → Option R) (out : R) : Exit → Act → World → Prop := fun e a w => ∃ e' st, e = exOf e' ∧ K e' st = some out ∧ Sim L w0 F0 X st a w
section
variable {P : Program} {C : Ctx} {F F' F1 F'' : Nat → Prop} {w w' : World} {β β' β0 : Bd} {H H' H1 G H0 : Heap}
variable {L : Nat → Prop} {X : List Value} {w0 : World} {F0 : Nat → Prop} {n : Nat} {sl : List Slot} {env : List AV} {a : Act} {o : Oper} {v : AV} {base : Nat → Prop} {D : Nat → Prop} {st st' : St}
theorem sim_drew (h : Sim L w0 F0 X st a w) : Sim L w0 F0 X st a { w with drawn := w.drawn + 1 } := by
  obtain ⟨F, β, gd, hd, hsz, henv⟩ := h
  have kp : Keeps F F w { w with drawn := w.drawn + 1 } β β st.heap st.heap := ⟨fun _ h => h, fun _ _ => rfl, fun _ _ h => h, fun h s hs => ⟨s, hs, like_refl s⟩⟩
  refine ⟨F, β, ⟨⟨gd.below.os, gd.below.tape, gd.below.output, gd.below.size, gd.below.block⟩, gd.fsz, gd.f0, gd.f1, fun h u hu => ?_, gd.sep⟩, ⟨hd.1, hd.2.mono fun _ _ => RepV.mono kp⟩, hsz, fun t => (henv t).mono kp⟩
  obtain ⟨s, h1, h2⟩ := gd.dom h u hu
  exact ⟨s, h1, h2.keep kp fun _ g _ => ⟨rfl, id⟩⟩
theorem exists_least {p : Nat → Prop} (h : ∃ n, p n) : ∃ n, p n ∧ ∀ m, p m → n ≤ m := by
  obtain ⟨n, hn⟩ := h
  induction n using Nat.strongRecOn with
  | _ n ih =>
    by_cases hh : ∃ m, m < n ∧ p m
    · obtain ⟨m, hm, hp⟩ := hh
      exact ih m hm hp
    · exact ⟨n, hn, fun m hm => Nat.le_of_not_lt fun hlt => hh ⟨m, hlt, hm⟩⟩
open Classical in
noncomputable def least (p : Nat → Prop) : Nat := if h : ∃ n, p n then Classical.choose (exists_least h) else 0
theorem least_spec {p : Nat → Prop} (h : ∃ n, p n) : p (least p) ∧ ∀ m, p m → least p ≤ m := by
  unfold least
  rw [dif_pos h]
  exact Classical.choose_spec (exists_least h)
theorem loop_ok {R : Type} {c : Code} {B : St → (Ex → St → Option R) → Option R} {l : LH} {K : Ex → St → Option R} {out : R} (hB : ∀ st (K : Ex → St → Option R) a w, B st K = some out → Sim L w0 F0 X st a w → c.wp P (QQ L X w0 F0 K out) a w)
    {m : Nat} (h : loopK B l K m st = some out) (hs : Sim L w0 F0 X st a w) : (Code.loop c).wp P (QQ L X w0 F0 K out) a w := by
  let J : Act → World → Nat → Prop := fun a w m => ∃ st, loopK B l K m st = some out ∧ Sim L w0 F0 X st a w
  refine wp_loop (fun a w => ∃ m, J a w m) (fun a w => least (J a w)) ⟨m, st, h, hs⟩ ?_
  intro a w hI
  obtain ⟨⟨st, hk, hsim⟩, hmin⟩ := least_spec hI
  revert hmin
  cases hm : least (J a w) with
  | zero => rw [hm] at hk; simp [loopK] at hk
  | succ m =>
    intro hmin
    rw [hm] at hk
    simp only [loopK] at hk
    refine wp_mono (hB st _ a w hk hsim) ?_
    rintro e a' w' ⟨e', st', rfl, hK, hs'⟩
    cases e' with
    | normal =>
      simp only [] at hK
      split at hK
      · rename_i s hn
        have hJ : J a' w' m := ⟨s, hK, prep_ok hn hs'⟩
        refine ⟨⟨m, hJ⟩, ?_⟩
        have := (least_spec (p := J a' w') ⟨m, hJ⟩).2 m hJ
        show least (J a' w') < m + 1
        omega
      · simp at hK
    | exit id =>
      simp only [] at hK
      split at hK
      · rename_i s hn; exact ⟨.exit id, s, rfl, hK, prep_ok hn hs'⟩
      · simp at hK
    | ret =>
      simp only [] at hK
      split at hK
      · rename_i s hn; exact ⟨.ret, s, rfl, hK, prep_ok hn hs'⟩
      · simp at hK
theorem code_ok {R : Type} {call : CallK R} (hc : CallS P call) (cx : CtxOk P C) {fid : FuncId} {k : Nat} {out : R} : ∀ (c : Code) (id : Nat) (st : St) (K : Ex → St → Option R) (a : Act) (w : World), aCode C fid call k c id st K = some out → Sim L w0 F0 X st a w → c.wp P (QQ L X w0 F0 K out) a w := by
  intro c
  induction c with
  | skip => intro id st K a w h hs; exact wp_skip ⟨.normal, st, rfl, h, hs⟩
  | region i ops draw =>
    intro id st K a w h hs
    simp only [aCode] at h
    split at h
    case h_2 => simp at h
    rename_i ops' q lt hq
    unfold drawn at hq
    cases draw with
    | false =>
      simp only [Option.some.injEq, Prod.mk.injEq] at hq
      obtain ⟨rfl, rfl, rfl⟩ := hq
      exact wp_region_list (opsK_ok hc cx _ _ _ _ _ _ _ h hs fun st' a' w' h' hs' => ⟨.normal, st', rfl, h', hs'⟩)
    | true =>
      simp only [] at hq
      split at hq
      · rename_i p hp
        simp only [Option.some.injEq, Prod.mk.injEq] at hq
        obtain ⟨rfl, rfl⟩ := hq
        exact wp_region_any cx.mixed (draw_ok hc cx hp h (sim_drew hs) fun st' a' w' h' hs' => ⟨.normal, st', rfl, h', hs'⟩)
      · simp only [Option.map_eq_some_iff, Prod.mk.injEq] at hq
        obtain ⟨p, hp, rfl, rfl⟩ := hq
        obtain ⟨o1, o2, o3⟩ := ord_perm ops
        have h1 := draw_ok hc cx hp h (sim_drew hs) (Q := QQ L X w0 F0 K out) fun st' a' w' h' hs' => ⟨.normal, st', rfl, h', hs'⟩
        rw [reord_size o1 o2 o3] at h1
        refine wp_region_any cx.mixed (perm_any o1 o2 o3 _ _ _ _ _ (by simp) (by simp) (fun i hi => ?_) h1)
        rw [Array.getD_eq_getD_getElem?, Array.getD_eq_getD_getElem?, Array.getElem?_replicate, Array.getElem?_replicate, if_pos hi, if_pos (pos_lt o1 o2 o3 hi)]
  | seq x y ihx ihy =>
    intro id st K a w h hs
    simp only [aCode] at h
    refine wp_seq (wp_mono (ihx _ _ _ _ _ h hs) ?_)
    rintro e a' w' ⟨e', st', rfl, hK, hs'⟩
    cases e' with
    | normal => exact ihy _ _ _ _ _ hK hs'
    | exit id => exact ⟨.exit id, st', rfl, hK, hs'⟩
    | ret => exact ⟨.ret, st', rfl, hK, hs'⟩
  | cond c x y ihx ihy =>
    intro id st K a w h hs
    simp only [aCode] at h
    split at h
    case h_3 => simp at h
    case h_2 =>
      rename_i t
      cases t with
      | true => exact wp_cond_true rfl (ihx id st K a w h hs)
      | false => exact wp_cond_false rfl (ihy id st K a w h hs)
    rename_i d
    split at h
    case h_2 => simp at h
    rename_i t ht
    obtain ⟨F, β, gd, hd, hsz, henv⟩ := hs
    have hb := env_bool (henv d) ht
    have hev : a.eval (.tmp d) = .bool t := by simp [Act.eval, Array.getD_eq_getD_getElem?, hb]
    have hset := set_same (x := .one (.bool t)) ht (by simp)
    cases t with
    | true =>
      simp only [hset] at h
      exact wp_cond_true hev (ihx id st K a w h ⟨F, β, gd, hd, hsz, henv⟩)
    | false =>
      simp only [hset] at h
      exact wp_cond_false hev (ihy id st K a w h ⟨F, β, gd, hd, hsz, henv⟩)
  | block i c ih =>
    intro id st K a w h hs
    simp only [aCode] at h
    refine wp_block (wp_mono (ih _ _ _ _ _ h hs) ?_)
    rintro e a' w' ⟨e', st', rfl, hK, hs'⟩
    cases e' with
    | normal => exact ⟨.normal, st', rfl, hK, hs'⟩
    | ret => exact ⟨.ret, st', rfl, hK, hs'⟩
    | exit j =>
      simp only [] at hK
      show if j = i then _ else _
      split at hK
      · rename_i hj; rw [if_pos hj]; exact ⟨.normal, st', rfl, hK, hs'⟩
      · rename_i hj; rw [if_neg hj]; exact ⟨.exit j, st', rfl, hK, hs'⟩
  | loop c ih =>
    intro id st K a w h hs
    simp only [aCode] at h
    split at h
    · rename_i s hn
      exact loop_ok (fun st K a w h hs => ih _ _ _ _ _ h hs) h (prep_ok hn hs)
    · simp at h
  | exit i => intro id st K a w h hs; exact wp_exit ⟨.exit i, st, rfl, h, hs⟩
  | ret => intro id st K a w h hs; exact wp_ret ⟨.ret, st, rfl, h, hs⟩
  | _ => intro id st K a w h hs; simp [aCode] at h
end
end Go.Proofs.Ytanpdkllnmeenaa.Am
namespace Go.Proofs.Ytanpdkllnmeenaa.Am
open Go Go.RowKit
set_option linter.unusedVariables false
set_option linter.unusedSectionVars false
set_option linter.unusedSimpArgs false
section
variable {P : Program} {C : Ctx} {F F' F1 F'' : Nat → Prop} {w w' : World} {β β' β0 : Bd} {H H' H1 G H0 : Heap}
variable {L : Nat → Prop} {X : List Value} {w0 : World} {F0 : Nat → Prop} {n : Nat} {sl : List Slot} {env : List AV} {a : Act} {o : Oper} {v : AV} {base : Nat → Prop} {D : Nat → Prop} {st st' : St}
def resSem (tmps : Array Value) : ResultVar → Sem Value
  | .tmp t => pure (tmps.getD t undef)
  | .cell a t => do loadVar t (← asAddr (tmps.getD a undef))
theorem results_eq (fn : Func) (tmps : Array Value) : results fn tmps = (do let vs ← fn.results.mapM (resSem tmps); pure (if h : vs.size = 1 then vs[0] else .tuple vs)) := by
  unfold results
  congr 1
theorem resV_ok (gd : Good L w0 w F0 F β st.heap) (cx : CtxOk P C) (henv : ∀ t, RepA F w β st.heap (envAt st.env t) (a.tmps.getD t undef)) {rv : ResultVar} (h : resV C st rv = some v) : ∃ u, (resSem a.tmps rv).run P w = .ok u w ∧ RepA F w β st.heap v u := by
  cases rv with
  | tmp t =>
    simp only [resV] at h
    split at h
    · simp at h
    · injection h with h
      subst h
      exact ⟨_, rfl, henv t⟩
  | cell x t =>
    simp only [resV, Option.bind_eq_some_iff] at h
    obtain ⟨T, hT, c, hc, cs, h1, h2⟩ := h
    obtain ⟨d, i, z, tk⟩ := cx.ty _ _ hT
    have r : RepV F w β st.heap c (a.tmps.getD x undef) := by
      have := henv x
      cases hx : envAt st.env x <;> rw [hx] at hc <;> simp [cell1] at hc
      subst hc
      rw [hx] at this
      exact this
    obtain ⟨g, off, vs, hu, hr, hl, rr⟩ := read_ok gd (fun h s e hs => slotAt_row e hs) r h1
    refine ⟨_, ?_, mkAV_ok h2 rr⟩
    have := run_load_of tk hr hl
    simp only [Instr.loadAt, Instr.sureAddr, Sem.run_bind, Sem.run_pure, Result.andThen_ok] at this
    simp only [resSem, hu, asAddr, Sem.run_bind, Sem.run_pure, Result.andThen_ok]
    exact this
theorem run_list_mapM {α : Type} {f : α → Sem Value} {R : AV → Value → Prop} {g : α → Option AV} (hf : ∀ x v, g x = some v → ∃ u, (f x).run P w = .ok u w ∧ R v u) : ∀ {l : List α} {m : List AV}, l.mapM g = some m → ∃ us, (l.mapM f).run P w = .ok us w ∧ All2 R m us
  | [], m, h => by simp at h; subst h; exact ⟨[], by simp, .nil⟩
  | x :: l, m, h => by
    simp only [List.mapM_cons, Option.bind_eq_bind, Option.bind_eq_some_iff] at h
    obtain ⟨v, h1, r, h2, h3⟩ := h
    simp at h3
    subst h3
    obtain ⟨u, a1, a2⟩ := hf x v h1
    obtain ⟨us, b1, b2⟩ := run_list_mapM hf h2
    exact ⟨u :: us, by simp [List.mapM_cons, a1, b1], .cons a2 b2⟩
theorem res0_ok {fn : Func} {r : AV} (gd : Good L w0 w F0 F β st.heap) (cx : CtxOk P C) (henv : ∀ t, RepA F w β st.heap (envAt st.env t) (a.tmps.getD t undef)) {vs : List AV} {fz : List Nat} (h1 : fn.results.toList.mapM (resV C st) = some vs) (h2 : freeze st.heap fz = some H1) (h : ((expT H1 [] vs).bind fun us => match us with
      | [u] => mkAV u.1 u.2
      | us => some (.tup us)) = some r) : ∃ v F', (results fn a.tmps).run P w = .ok v w ∧ Good L w0 w F0 F' β H1 ∧ RepR (Bs L w0) F' w r v := by
  simp only [Option.bind_eq_some_iff] at h
  obtain ⟨us, h3, h4⟩ := h
  obtain ⟨ws, hrun, hrep⟩ := run_list_mapM (P := P) (w := w) (f := resSem a.tmps) (R := RepA F w β st.heap) (fun x v hx => resV_ok gd cx henv hx) h1
  obtain ⟨F1, g1, k1, _, _⟩ := freeze_ok gd h2
  obtain ⟨hs, xs, _, hnd, hgives, hout⟩ := expT_ok g1 (hrep.mono fun _ _ => RepA.mono k1) h3
  have hres : (results fn a.tmps).run P w = .ok (if h : ws.toArray.size = 1 then ws.toArray[0] else .tuple ws.toArray) w := by
    rw [results_eq, Array.mapM_eq_mapM_toList]
    simp [hrun]
  refine ⟨_, F1, hres, g1, ?_⟩
  have hdis := gives_dis g1 hnd hgives
  have hlen : us.length = ws.length := by
    have := (hout.2 0 (fun i => xs[i]?) ((adoptT us 0).2) (fun j s hs => by simpa using hs) (fun j u hu => by simpa using hu)).1
    have h2 := this.length
    have : ∀ (us : List (Bool × List CV)) n, (adoptT us n).1.length = us.length := by
      intro us
      induction us with
      | nil => intro n; rfl
      | cons u us ih => intro n; simp [adoptT, ih]
    rw [this] at h2
    exact h2
  by_cases hone : ws.length = 1
  · obtain ⟨x, rfl⟩ := List.length_eq_one_iff.1 hone
    obtain ⟨u, rfl⟩ := List.length_eq_one_iff.1 hlen
    have e1 : (adoptT [u] 0).2 = (adoptL u.2 0).2 := by simp [adoptT]
    simp only [] at h4
    rcases u with ⟨b, cs⟩
    cases b with
    | true =>
      simp [mkAV] at h4
      subst h4
      refine ⟨xs, by rw [hout.1, e1]; rfl, hdis, fun n β2 H2 hH hβ => ?_⟩
      obtain ⟨y1, y2⟩ := hout.2 n β2 H2 (by rw [e1]; exact hH) hβ
      refine ⟨?_, by rw [e1] at y2; exact y2⟩
      cases y1 with
      | cons y _ => exact y
    | false =>
      cases cs with
      | nil => simp [mkAV] at h4
      | cons c cs =>
        cases cs with
        | cons c2 cs => simp [mkAV] at h4
        | nil =>
          simp [mkAV] at h4
          subst h4
          have e2 : (adoptL [c] 0).2 = (adopt1 c 0).2 := by simp [adoptL]
          refine ⟨xs, by rw [hout.1, e1, e2]; rfl, hdis, fun n β2 H2 hH hβ => ?_⟩
          obtain ⟨y1, y2⟩ := hout.2 n β2 H2 (by rw [e1, e2]; exact hH) hβ
          refine ⟨?_, by rw [e1, e2] at y2; exact y2⟩
          cases y1 with
          | cons y _ =>
            obtain ⟨q, hq, y⟩ := y
            simp [adoptL] at hq
            subst hq
            exact y
  · have hr : r = .tup us := by
      match us, hlen with
      | [], _ => simp at h4; exact h4.symm
      | [u], hl => simp at hl; omega
      | u :: u2 :: us, _ => simp at h4; exact h4.symm
    subst hr
    have hd' : ¬ ws.toArray.size = 1 := by simpa using hone
    rw [dif_neg hd']
    refine ⟨xs, hout.1, hdis, fun n β2 H2 hH hβ => ?_⟩
    obtain ⟨y1, y2⟩ := hout.2 n β2 H2 hH hβ
    refine ⟨⟨ws.toArray, rfl, ?_⟩, y2⟩
    have y1' : All2 (RepU F1 w β2 H2) (adoptT us n).1 ws.toArray.toList := by simpa using y1
    exact y1'.mono fun u v h => h
theorem rootV_ok (gd : Good L w0 w F0 F β H) {c : CV} {x : Value} {v : AV} (r : RepV F w β H c x) (h : rootV H c = some v) : ∃ ct, RepA F w β H v ct ∧ ((∃ k i off t cs g arr e, c = .ptr k i off ∧ v = .agg cs ∧ H[k]? = some (.box t cs) ∧ β k = some x ∧ x = .pointer (some ⟨g, 0, none⟩) ∧ ct = .agg arr ∧ w.heap[g]? = some (.cells arr e (0, 0)) ∧ Bs L w0 g ∧ ¬ F g) ∨ (∃ k, c = .ref k ∧ ((∃ A n c, x = .slice A n c) ∨ ∃ g, x = .map (some g)) ∧ ct = x)) := by
  cases c with
  | ptr k i off =>
    simp only [rootV] at h
    split at h
    · rename_i t cs hs
      split at h
      · rename_i hio
        obtain ⟨rfl, rfl⟩ := hio
        injection h with h
        subst h
        have hH := slotAt_row hs (by simp)
        simp only [RepV, RepPtr, hH] at r
        obtain ⟨_, g, hb, rfl⟩ := r
        obtain ⟨g', arr, e, hu, hB, harr, hall, hnF⟩ := gd.slot hb hH
        simp at hu
        subst hu
        exact ⟨.agg arr, ⟨arr, rfl, hall⟩, .inl ⟨k, 0, 0, t, cs, g, arr, e, rfl, rfl, hH, hb, rfl, rfl, harr, hB, hnF⟩⟩
      · simp at h
    · simp at h
  | ref k =>
    simp only [rootV] at h
    split at h
    · rename_i e t xs hs
      injection h with h
      subst h
      have hH := slotAt_row hs (by simp)
      have r2 := r
      simp only [RepV, hH] at r2
      refine ⟨x, r, .inr ⟨k, rfl, ?_, rfl⟩⟩
      obtain ⟨⟨_, ho, _⟩, _⟩ := gd.slot r2.1 hH
      rcases ownsT_kind ho with ⟨_, A, c, h⟩ | ⟨g, _, h⟩
      · exact .inl ⟨_, _, _, h⟩
      · exact .inr ⟨_, h⟩
    · simp at h
  | _ => simp [rootV] at h
theorem roots_ok (gd : Good L w0 w F0 F β H) : ∀ {rts : List CV} {X : List Value} {rs : List AV}, All2 (RepV F w β H) rts X → mapA (rootV H) rts = some rs →
    ∃ cts, All2 (RepA F w β H) rs cts ∧ cts.length = rts.length ∧ ∀ (j : Nat) (c : CV) (x ct : Value), rts[j]? = some c → X[j]? = some x → cts[j]? = some ct →
      ((∃ k i off t cs g arr e, c = .ptr k i off ∧ H[k]? = some (.box t cs) ∧ β k = some x ∧ x = .pointer (some ⟨g, 0, none⟩) ∧ ct = .agg arr ∧ w.heap[g]? = some (.cells arr e (0, 0)) ∧ Bs L w0 g ∧ ¬ F g) ∨ (∃ k, c = .ref k ∧ ((∃ A n c, x = .slice A n c) ∨ ∃ g, x = .map (some g)) ∧ ct = x))
  | [], _, rs, .nil, h => by simp [mapA] at h; subst h; exact ⟨[], .nil, rfl, fun j c x ct hj => by simp at hj⟩
  | c :: l, x :: X, rs, .cons r t, h => by
    simp only [mapA, Option.bind_eq_some_iff, Option.map_eq_some_iff] at h
    obtain ⟨v, h1, q, h2, rfl⟩ := h
    obtain ⟨ct, a1, a2⟩ := rootV_ok gd r h1
    obtain ⟨cts, b1, b2, b3⟩ := roots_ok gd t h2
    refine ⟨ct :: cts, .cons a1 b1, by simp [b2], fun j c' x' ct' e1 e2 e3 => ?_⟩
    cases j with
    | zero =>
      simp at e1 e2 e3
      subst e1 e2 e3
      rcases a2 with ⟨k, i, off, t, cs, g, arr, e, e1, _, r⟩ | r
      · exact .inl ⟨k, i, off, t, cs, g, arr, e, e1, r⟩
      · exact .inr r
    | succ j => exact b3 j c' x' ct' (by simpa using e1) (by simpa using e2) (by simpa using e3)
theorem adoptA_tup (us : List (Bool × List CV)) (n : Nat) : adoptA (.tup us) n = (.tup (adoptT us n).1, (adoptT us n).2) := rfl
theorem res_ok {fn : Func} {r : AV} (hs : Sim L w0 F0 X st a w) (cx : CtxOk P C) {fid : FuncId} (h : resK C fid fn st = some r) : ∃ v F', (results fn a.tmps).run P w = .ok v w ∧ a.defers = [] ∧ CResL L w0 F0 X r v w F' := by
  obtain ⟨F, β, gd, ⟨hd, hX⟩, hsz, henv⟩ := hs
  simp only [resK, Option.bind_eq_some_iff] at h
  obtain ⟨vs, h1, h⟩ := h
  split at h
  · rename_i c hfn
    simp only [Option.map_eq_some_iff] at h
    obtain ⟨c', h2, rfl⟩ := h
    unfold fnRes at hfn
    split at hfn
    case h_2 => simp at hfn
    rename_i hrt
    split at hfn
    case h_2 => simp at hfn
    rename_i f pa pb
    injection hfn with hfn
    subst hfn
    obtain ⟨ws, hrun, hrep⟩ := run_list_mapM (P := P) (w := w) (f := resSem a.tmps) (R := RepA F w β st.heap) (fun x v hx => resV_ok gd cx henv hx) h1
    cases hrep with
    | cons r t =>
      cases t
      have hX0 := hX.length
      rw [hrt] at hX0
      cases X with
      | cons x0 X0 => simp at hX0
      | nil =>
      rename_i u
      have hp : ∀ (β2 : Bd) (H2 : Heap), RepV (FB F β st.heap (Dp st.heap (hsC (.fn f pa pb)))) w β2 H2 c' u := fun β2 H2 => pureC_ok gd (dp_deep _ _) (c := .fn f pa pb) (show RepV F w β st.heap (.fn f pa pb) u from r) h2 fun k hk => .base hk
      have hfnc : ∃ f' a' b', c' = .fn f' a' b' := by
        simp only [pureC, Option.bind_eq_some_iff] at h2
        obtain ⟨a', _, b', _, h3⟩ := h2
        simp at h3
        exact ⟨_, _, _, h3.symm⟩
      obtain ⟨f', a', b', rfl⟩ := hfnc
      refine ⟨u, FB F β st.heap (Dp st.heap (hsC (.fn f pa pb))), ?_, hd, gd.below, fb_lt gd, fun g hg hn => ?_, fun g hg => .inl (gd.f1 g hg), [], rfl, fun j j' u u' g hj => by simp at hj, fun n β2 H2 _ _ => ⟨hp β2 H2, fun j s u hs => by simp [adoptA, adopt1] at hs⟩⟩
      · rw [results_eq, Array.mapM_eq_mapM_toList]
        simp [hrun]
      · rcases hg with hg | ⟨h, v, s, _, hs, hl, hv, hg⟩
        · exact gd.f0 g hg hn
        · exact absurd ((gd.slot hv hs).lt hl hg).1 hn
  simp only [Option.bind_eq_some_iff] at h
  obtain ⟨H1, h2, h⟩ := h
  split at h
  · rename_i hrt
    obtain ⟨v, F', hrun, g1, hr⟩ := res0_ok gd cx henv h1 h2 h
    refine ⟨v, F', hrun, hd, g1.below, g1.fsz, g1.f0, g1.f1, ?_⟩
    rw [hrt] at hX
    cases hX
    exact hr
  · rename_i c0 rts0 hrt
    simp only [Option.bind_eq_some_iff, Option.map_eq_some_iff] at h
    obtain ⟨rs, h3, H2, h4, us, h5, rfl⟩ := h
    obtain ⟨ws, hrun, hrep⟩ := run_list_mapM (P := P) (w := w) (f := resSem a.tmps) (R := RepA F w β st.heap) (fun x v hx => resV_ok gd cx henv hx) h1
    obtain ⟨F1, g1, k1, _, _⟩ := freeze_ok gd h2
    obtain ⟨cts, c1, c2, c3⟩ := roots_ok g1 (hX.mono fun _ _ => RepV.mono k1) h3
    obtain ⟨F2, g2, k2, _, _⟩ := freeze_ok g1 h4
    have hall : All2 (RepA F2 w β H2) (rs ++ vs) (cts ++ ws) := (c1.mono fun _ _ => RepA.mono k2).append (hrep.mono fun _ _ => RepA.mono (k1.trans k2))
    obtain ⟨hs, xs, _, hnd, hgives, hout⟩ := expT_ok g2 hall h5
    have hres : (results fn a.tmps).run P w = .ok (oneOf ws) w := by
      rw [results_eq, Array.mapM_eq_mapM_toList]
      simp [hrun, oneOf]
    refine ⟨_, F2, hres, hd, g2.below, g2.fsz, g2.f0, g2.f1, ?_⟩
    have hXl := hX.length
    rw [hrt] at hXl
    cases X with
    | nil => simp at hXl
    | cons x0 X0 =>
    refine ⟨us, ws, rfl, rfl, xs, cts, ⟨hout.1, gives_dis g2 hnd hgives, fun n β2 H2 hH hβ => ?_⟩, by rw [c2]; exact hX.length, fun j x ct e2 e3 => ?_⟩
    · obtain ⟨y1, y2⟩ := hout.2 n β2 H2 hH hβ
      exact ⟨⟨(cts ++ ws).toArray, rfl, y1.mono fun u v h => h⟩, y2⟩
    · obtain ⟨c, e1, _⟩ := hX.getR e2
      rcases c3 j c x ct e1 e2 e3 with ⟨k, i, off, t, cs, g, arr, e, rfl, hk, hb, hxg, rfl, harr, hB, hnF⟩ | ⟨k, rfl, hsl, rfl⟩
      · obtain ⟨s2, hs2, hl2⟩ := k2.h k _ hk
        have hk2 : ∃ cs', H2[k]? = some (.box t cs') := by
          obtain ⟨s3, hs3, ok3⟩ := g2.dom k x hb
          rw [hs2] at hs3
          injection hs3 with hs3
          have hfr := freeze_box h4 hk
          exact ⟨cs, hfr⟩
        obtain ⟨cs', hk2⟩ := hk2
        have ok2 := g2.slot hb hk2
        refine .inr ⟨g, arr, e, hxg, rfl, harr, hB, (ok2.lt rfl (g := g) (by rw [hxg]; rfl)).2.2, fun j' u hu hg => ?_⟩
        obtain ⟨h', e1', a1', e2', t2, xs2, b1'⟩ := All2.getR hgives hu
        have := g2.sep k h' _ _ x u g hk2 b1' rfl rfl hb a1' (by rw [hxg]; rfl) hg
        subst this
        rw [hk2] at b1'
        simp at b1'
      · exact .inl ⟨hsl, rfl⟩
theorem run_enter {f : FuncId} {fn : Func} {c : Code} (hf : P.funcs[f]? = some fn) (hname : (fn.name == "runtime.NumGoroutine") = false) (hb : fn.body = some c) (args : Array Value) (w : World) : (callFunc f args).run P w = .ok (.enter f args) w := by
  simp [callFunc, program, Sem.run, hf, hb]
  simp at hname
  simp [hname]
/-- What is known of what is told otherwise. -/
def PrimsOk (P : Program) (pr : Prims) : Prop := ∀ g f vs r, pr g = some f → f vs = some r → CallOK P g vs r
theorem fun_ok {call : CallF} (hd : DetC call) (hc : ∀ {R : Type}, CallS P (@call R)) (cx : CtxOk P C) (hg : ∀ (g : FuncId) (fn : Func), P.funcs[g]? = some fn → (fn.name == "runtime.NumGoroutine") = false) {g : FuncId} {fn : Func} (hf : P.funcs[g]? = some fn) {k : Nat} {vs : Pack} {r : AV} (h : aFun C g fn (@call AV) k vs some = some r) : CallOK P g vs r := by
  intro L w F β args X gd0 hargs hX0
  unfold aFun at h
  split at h
  · simp at h
  rename_i c hb
  refine .inl ⟨run_enter hf (hg g fn hf) hb args w, ?_⟩
  refine calls_of_wp hf hb ?_
  have hsim : Sim L w F X ⟨vs.vs ++ List.replicate (fn.ntmps - vs.vs.length) .undef, vs.heap, vs.roots⟩ { tmps := args ++ Array.replicate (fn.ntmps - args.size) undef, defers := [] } w := by
    have hl := hargs.length
    simp only [Array.length_toList] at hl
    refine ⟨F, β, gd0, ⟨rfl, hX0⟩, by simp [hl], fun t => ?_⟩
    simp only [envAt, List.getD_eq_getElem?_getD]
    by_cases ht : t < vs.vs.length
    · rw [List.getElem?_append_left ht]
      obtain ⟨u, h1, h2⟩ := hargs.get (List.getElem?_eq_getElem ht)
      have h3 : (args ++ Array.replicate (fn.ntmps - args.size) undef).getD t undef = u := by
        rw [Array.getElem?_toList] at h1
        have hlt := (Array.getElem?_eq_some_iff.1 h1).1
        rw [Array.getD_eq_getD_getElem?, Array.getElem?_append_left hlt, h1]; rfl
      rw [h3, List.getElem?_eq_getElem ht]
      exact h2
    · rw [List.getElem?_append_right (by omega)]
      cases hq : (List.replicate (fn.ntmps - vs.vs.length) AV.undef)[t - vs.vs.length]? with
      | none => trivial
      | some x =>
        have := List.mem_of_getElem? hq
        rw [List.mem_replicate] at this
        rw [this.2]; trivial
  refine wp_mono (code_ok hc cx c 0 _ _ _ _ h hsim) ?_
  rintro e a' w' ⟨e', st', rfl, hK, hs'⟩
  cases e' with
  | exit id => simp at hK
  | normal =>
    simp only [] at hK
    split at hK
    · rename_i r' hr
      injection hK with hK
      subst hK
      obtain ⟨v, F', hrun, hdf, hres⟩ := res_ok hs' cx hr
      exact ⟨hdf, v, hrun, v, F', rfl, hres⟩
    · simp at hK
  | ret =>
    simp only [] at hK
    split at hK
    · rename_i r' hr
      injection hK with hK
      subst hK
      obtain ⟨v, F', hrun, hdf, hres⟩ := res_ok hs' cx hr
      exact ⟨hdf, v, hrun, v, F', rfl, hres⟩
    · simp at hK
/-- ALL CALLS. -/
theorem call_all (cx : CtxOk P C) (hn : C.nxt = false) (hg : ∀ (g : FuncId) (fn : Func), P.funcs[g]? = some fn → (fn.name == "runtime.NumGoroutine") = false) {pr : Prims} (hp : PrimsOk P pr) : ∀ k {R : Type}, CallS P (fun g vs K => aCallK P C pr k (R := R) g vs K)
  | 0, R => fun g vs K out h => by simp [aCallK] at h
  | k + 1, R => fun g vs K out h => by
    obtain ⟨r, h1, hall⟩ := aCallK_det P C hn pr (k + 1) g vs K out h
    refine ⟨r, h1, ?_⟩
    have h2 : aCallK P C pr (k + 1) g vs some = some r := hall some
    simp only [aCallK] at h2
    split at h2
    · rename_i f hf
      split at h2
      · rename_i r' hr
        injection h2 with h2
        subst h2
        exact hp g f vs r' hf hr
      · simp at h2
    · split at h2
      · simp at h2
      · rename_i fn hf
        split at h2
        · exact fun_ok (aCallK_det P C hn pr k) (call_all cx hn hg hp k) cx hg hf h2
        · rename_i nf hnf
          split at h2
          · rename_i r0 hr0
            split at h2
            · rename_i r' hr'
              injection h2 with h2
              subst h2
              have := cx.nd _ _ _ _ hnf hr'
              subst this
              exact fun_ok (C := C.on) (aCallK_det P C hn pr k) (call_all cx hn hg hp k) cx.on hg hf hr0
            · simp at h2
          · simp at h2
end
end Go.Proofs.Ytanpdkllnmeenaa.Am
namespace Go.Proofs.Ytanpdkllnmeenaa.Am
open Go Go.RowKit
set_option linter.unusedVariables false
set_option linter.unusedSectionVars false
set_option linter.unusedSimpArgs false
def look {α : Type} : List (Nat × α) → Nat → Option α
  | [], _ => none
  | (k, v) :: r, t => match Nat.beq k t with | true => some v | false => look r t
/-! ### Loops -/
def loopN {A X : Type} (z : X) (Φ : (A → X) → A → X) : Nat → A → X
  | 0, _ => z
  | k + 1, a => Φ (loopN z Φ k) a
def loopsOf : Code → Nat → List (Nat × Code)
  | .seq a b, id => loopsOf a id ++ loopsOf b id
  | .cond _ a b, id => loopsOf a id ++ loopsOf b id
  | .block i c, _ => loopsOf c i
  | .loop c, id => [(id, c)]
  | _, _ => []
/-- All loops, those inside of others, too. -/
def allLoops : Code → Nat → List (Nat × Code)
  | .seq a b, id => allLoops a id ++ allLoops b id
  | .cond _ a b, id => allLoops a id ++ allLoops b id
  | .block i c, _ => allLoops c i
  | .loop c, id => (id, c) :: allLoops c id
  | _, _ => []
/-- A function's loop. -/
def lc (fn : Func) (id : Nat) : Code := match fn.body with | some c => (look (allLoops c 0) id).getD .skip | none => .skip
section
variable {R : Type} {C : Ctx} {fid : FuncId} {call : CallK R} {k : Nat}
theorem aCodeH_eq (hook : Nat → St → (Ex → St → Option R) → Option R) : ∀ (c : Code) (id : Nat), (∀ p ∈ loopsOf c id, ∀ st K, hook p.1 st K = aCode C fid call k (.loop p.2) p.1 st K) → ∀ st K, aCodeH C call hook c id st K = aCode C fid call k c id st K := by
  intro c
  induction c with
  | seq a b iha ihb =>
    intro id h st K
    simp only [aCodeH, aCode]
    rw [iha id (fun p hp => h p (by simp [loopsOf, hp]))]
    congr 1
    funext e st'
    cases e with
    | normal => exact ihb id (fun p hp => h p (by simp [loopsOf, hp])) st' K
    | exit j => rfl
    | ret => rfl
  | cond c a b iha ihb =>
    intro id h st K
    simp only [aCodeH, aCode]
    cases c with
    | tmp d =>
      simp only []
      cases he : envAt st.env d with
      | one c =>
        cases c with
        | bool t =>
          cases t with
          | true => exact iha id (fun p hp => h p (by simp [loopsOf, hp])) _ K
          | false => exact ihb id (fun p hp => h p (by simp [loopsOf, hp])) _ K
        | _ => rfl
      | _ => rfl
    | const v =>
      cases v with
      | bool t =>
        cases t with
        | true => exact iha id (fun p hp => h p (by simp [loopsOf, hp])) _ K
        | false => exact ihb id (fun p hp => h p (by simp [loopsOf, hp])) _ K
      | _ => rfl
    | _ => rfl
  | block i c ih =>
    intro id h st K
    simp only [aCodeH, aCode]
    exact ih i (fun p hp => h p (by simpa [loopsOf] using hp)) st _
  | loop c _ => intro id h st K; exact h (id, c) (by simp [loopsOf]) st K
  | _ => intro id h st K; rfl
/-- A loop by its step. -/
def hookG (body : St → (Ex → St → Option R) → Option R) (l : LH) (k : Nat) {A : Type} (dec : St → Option A) (Φ : (Ex → St → Option R) → (A → Option R) → A → Option R) (st : St) (K : Ex → St → Option R) : Option R :=
  match prep l.zhead l.head st with
  | none => none
  | some s => match dec s with
    | some a => loopN none (Φ K) k a
    | none => loopK body l K k s
theorem loopN_eq {body : St → (Ex → St → Option R) → Option R} {l : LH} {A : Type} {mk : A → St} {Φ : (Ex → St → Option R) → (A → Option R) → A → Option R} (K : Ex → St → Option R)
    (h : ∀ (m : Nat) (a : A), loopK body l K (m + 1) (mk a) = Φ K (fun a => loopK body l K m (mk a)) a) : ∀ m a, loopK body l K m (mk a) = loopN none (Φ K) m a
  | 0, a => rfl
  | m + 1, a => by
    rw [h, loopN]
    congr 1
    funext a
    exact loopN_eq K h m a
theorem hook_eq {c : Code} {id : Nat} {A : Type} {dec : St → Option A} {mk : A → St} {Φ : (Ex → St → Option R) → (A → Option R) → A → Option R} (hdec : ∀ s a, dec s = some a → s = mk a)
    (h : ∀ (K : Ex → St → Option R) (m : Nat) (a : A), loopK (fun st K => aCode C fid call k c id st K) (C.hint fid id) K (m + 1) (mk a) = Φ K (fun a => loopK (fun st K => aCode C fid call k c id st K) (C.hint fid id) K m (mk a)) a) (st : St) (K : Ex → St → Option R) :
    hookG (fun st K => aCode C fid call k c id st K) (C.hint fid id) k dec Φ st K = aCode C fid call k (.loop c) id st K := by
  simp only [hookG, aCode]
  cases prep (C.hint fid id).zhead (C.hint fid id).head st with
  | none => rfl
  | some s =>
    simp only []
    cases hd : dec s with
    | none => rfl
    | some a =>
      simp only []
      rw [hdec s a hd]
      exact (loopN_eq K (h K) k a).symm
def hookL (body : St → (Ex → St → Option R) → Option R) (l : LH) (k : Nat) {A : Type} (dec : St → Option A) (L : (Ex → St → Option R) → Nat → A → Option R) (st : St) (K : Ex → St → Option R) : Option R :=
  match prep l.zhead l.head st with
  | none => none
  | some s => match dec s with
    | some a => L K k a
    | none => loopK body l K k s
theorem hookL_eq {c : Code} {id : Nat} {A : Type} {dec : St → Option A} {mk : A → St} {L : (Ex → St → Option R) → Nat → A → Option R} (hdec : ∀ s a, dec s = some a → s = mk a) {Φ : (Ex → St → Option R) → (A → Option R) → A → Option R}
    (h0 : ∀ (K : Ex → St → Option R) (a : A), L K 0 a = none) (h1 : ∀ (K : Ex → St → Option R) (m : Nat) (a : A), L K (m + 1) a = Φ K (L K m) a)
    (h : ∀ (K : Ex → St → Option R) (m : Nat) (a : A), loopK (fun st K => aCode C fid call k c id st K) (C.hint fid id) K (m + 1) (mk a) = Φ K (fun a => loopK (fun st K => aCode C fid call k c id st K) (C.hint fid id) K m (mk a)) a) (st : St) (K : Ex → St → Option R) :
    hookL (fun st K => aCode C fid call k c id st K) (C.hint fid id) k dec L st K = aCode C fid call k (.loop c) id st K := by
  have key : ∀ m a, loopK (fun st K => aCode C fid call k c id st K) (C.hint fid id) K m (mk a) = L K m a := by
    intro m
    induction m with
    | zero => intro a; rw [h0]; rfl
    | succ m ih =>
      intro a
      rw [h, h1]
      congr 1
      funext a
      exact ih a
  simp only [hookL, aCode]
  cases prep (C.hint fid id).zhead (C.hint fid id).head st with
  | none => rfl
  | some s =>
    simp only []
    cases hd : dec s with
    | none => rfl
    | some a =>
      simp only []
      rw [hdec s a hd]
      exact (key k a).symm
def hookOf (l : List (Nat × (St → (Ex → St → Option R) → Option R))) (id : Nat) (st : St) (K : Ex → St → Option R) : Option R := match look l id with | some f => f st K | none => none
/-- The body of a loop, its own loops by the table. -/
theorem loop_step {c : Code} {id : Nat} (hook : Nat → St → (Ex → St → Option R) → Option R) (hh : ∀ p ∈ loopsOf c id, ∀ st K, hook p.1 st K = aCode C fid call k (.loop p.2) p.1 st K) {X : Option R} (K : Ex → St → Option R) (m : Nat) (s : St)
    (h : aCodeH C call hook c id s (fun e st' => match e with
      | .normal => match prep (C.hint fid id).zhead (C.hint fid id).head st' with | some s => loopK (fun st K => aCode C fid call k c id st K) (C.hint fid id) K m s | none => none
      | .exit j => match prep (C.hint fid id).zexit (C.hint fid id).exit st' with | some s => K (.exit j) s | none => none
      | .ret => match prep (C.hint fid id).zret (C.hint fid id).ret st' with | some s => K .ret s | none => none) = X) : loopK (fun st K => aCode C fid call k c id st K) (C.hint fid id) K (m + 1) s = X := by
  rw [← h, aCodeH_eq hook c id hh]
  rfl
/-- A function, its loops by the table. -/
theorem fun_step {fn : Func} {c : Code} (hb : fn.body = some c) (hook : Nat → St → (Ex → St → Option R) → Option R) (hh : ∀ p ∈ loopsOf c 0, ∀ st K, hook p.1 st K = aCode C fid call k (.loop p.2) p.1 st K) (args : Pack) (K : AV → Option R) {X : Option R}
    (h : aCodeH C call hook c 0 ⟨args.vs ++ List.replicate (fn.ntmps - args.vs.length) .undef, args.heap, args.roots⟩ (fun e st => match e with
      | .exit _ => none
      | _ => match resK C fid fn st with | some r => K r | none => none) = X) : aFun C fid fn call k args K = X := by
  rw [← h, aCodeH_eq hook c 0 hh]
  simp only [aFun, hb]
  rfl
end
def AllL {α : Type} (p : α → Prop) : List α → Prop
  | [] => True
  | a :: r => p a ∧ AllL p r
theorem allL {α : Type} {p : α → Prop} : ∀ {l l' : List α}, l = l' → AllL p l' → ∀ a ∈ l, p a
  | _, [], h, _ => by subst h; intro a ha; simp at ha
  | _, b :: r, h, h2 => by
    subst h
    intro a ha
    rcases List.mem_cons.1 ha with rfl | ha
    · exact h2.1
    · exact allL rfl h2.2 a ha
/-! ### Shapes -/
inductive PS where
  | val (t : Ty) | agg (t : Ty) | fptr (t : Ty) (off : Nat) | ptr (h off : Nat)
@[reducible] def PS.den : PS → Type
  | .val t => t.den | .agg t => t.den | .fptr t _ => t.den | .ptr .. => Unit
@[reducible] def HP : List PS → Type
  | [] => Unit | s :: r => s.den × HP r
def PS.enc : (s : PS) → s.den → PV
  | .val t, x => .val t x | .agg t, x => .agg t x | .fptr t off, x => .fptr t x off | .ptr h off, _ => .ptr h 0 off
def PS.dec : (s : PS) → PV → Option s.den
  | .val t, .val t' x => if h : t' = t then some (h ▸ x) else none
  | .agg t, .agg t' x => if h : t' = t then some (h ▸ x) else none
  | .fptr t off, .fptr t' x off' => if h : t' = t then if off' = off then some (h ▸ x) else none else none
  | .ptr h off, .ptr h' i off' => match Nat.beq h' h && (Nat.beq off' off && Nat.beq i 0) with | true => some () | false => none
  | _, _ => none
def encPs : (l : List PS) → HP l → List PV
  | [], _ => [] | s :: r, x => s.enc x.1 :: encPs r x.2
def decPs : (l : List PS) → List PV → Option (HP l)
  | [], [] => some () | s :: r, p :: q => (s.dec p).bind fun x => (decPs r q).map fun y => (x, y)
  | _, _ => none
theorem PS.dec_ok {s : PS} {p : PV} {x : s.den} (h : s.dec p = some x) : p = s.enc x := by
  cases s <;> cases p <;> simp only [PS.dec, reduceCtorEq] at h
  · split at h
    · rename_i e; subst e; injection h with h; subst h; rfl
    · simp at h
  · split at h
    · rename_i e; subst e; injection h with h; subst h; rfl
    · simp at h
  · split at h
    · rename_i e
      subst e
      split at h
      · rename_i e; subst e; injection h with h; subst h; rfl
      · simp at h
    · simp at h
  · split at h
    · rename_i e
      rw [Bool.and_eq_true, Bool.and_eq_true] at e
      rw [Nat.eq_of_beq_eq_true e.1, Nat.eq_of_beq_eq_true e.2.1, Nat.eq_of_beq_eq_true e.2.2]; rfl
    · simp at h
theorem decPs_ok : ∀ {l : List PS} {p : List PV} {x : HP l}, decPs l p = some x → p = encPs l x
  | [], [], _, _ => rfl
  | [], _ :: _, _, h => by simp [decPs] at h
  | _ :: _, [], _, h => by simp [decPs] at h
  | s :: r, p :: q, x, h => by
    simp only [decPs, Option.bind_eq_some_iff, Option.map_eq_some_iff] at h
    obtain ⟨a, h1, b, h2, rfl⟩ := h
    rw [PS.dec_ok h1, decPs_ok h2]; rfl
/-- The shape of a cell. -/
inductive CS where
  | undef | nils | int (k : IntKind) | bool | str | vsl (t : Ty) | own (e : TypeId) (t : Ty) | ref (h : Nat) | sub (h : Nat) | ptr (h off : Nat) | ptr0 (h off : Nat) | fptr (t : Ty) (off : Nat) | fn (f : FuncId) (a b : List PS)
@[reducible] def CS.den : CS → Type
  | .undef | .nils | .ref _ | .ptr0 .. => Unit | .int _ => Int | .bool => Bool | .str => ByteArray | .vsl t | .own _ t => List t.den | .sub _ => Nat × Nat | .ptr .. => Nat | .fptr t _ => t.den | .fn _ a b => HP a × HP b
def CS.enc : (s : CS) → s.den → CV
  | .undef, _ => .undef | .nils, _ => .nils | .int k, n => .int k n | .bool, b => .bool b | .str, s => .str s | .vsl t, xs => .vsl t xs | .own e t, xs => .own e t xs | .ref h, _ => .ref h
  | .sub h, p => .sub h p.1 p.2 | .ptr h off, i => .ptr h i off | .ptr0 h off, _ => .ptr h 0 off | .fptr t off, x => .fptr t x off | .fn f a b, p => .fn f (encPs a p.1) (encPs b p.2)
def CS.dec : (s : CS) → CV → Option s.den
  | .undef, .undef => some ()
  | .nils, .nils => some ()
  | .int k, .int k' n => if k' = k then some n else none
  | .bool, .bool b => some b
  | .str, .str s => some s
  | .vsl t, .vsl t' xs => if h : t' = t then some (h ▸ xs) else none
  | .own e t, .own e' t' xs => if e' = e then if h : t' = t then some (h ▸ xs) else none else none
  | .ref h, .ref h' => match Nat.beq h' h with | true => some () | false => none
  | .sub h, .sub h' o l => match Nat.beq h' h with | true => some (o, l) | false => none
  | .ptr h off, .ptr h' i off' => match Nat.beq h' h && Nat.beq off' off with | true => some i | false => none
  | .ptr0 h off, .ptr h' i off' => match Nat.beq h' h && (Nat.beq off' off && Nat.beq i 0) with | true => some () | false => none
  | .fptr t off, .fptr t' x off' => if h : t' = t then match Nat.beq off' off with | true => some (h ▸ x) | false => none else none
  | .fn f a b, .fn f' a' b' => match Nat.beq f' f with | true => (decPs a a').bind fun x => (decPs b b').map fun y => (x, y) | false => none
  | _, _ => none
theorem CS.dec_ok {s : CS} {c : CV} {x : s.den} (h : s.dec c = some x) : c = s.enc x := by
  cases s <;> cases c <;> simp only [CS.dec, reduceCtorEq] at h
  · rfl
  · rfl
  · split at h
    · rename_i e; subst e; injection h with h; subst h; rfl
    · simp at h
  · injection h with h; subst h; rfl
  · injection h with h; subst h; rfl
  · split at h
    · rename_i e; subst e; injection h with h; subst h; rfl
    · simp at h
  · split at h
    · rename_i e
      subst e
      split at h
      · rename_i e; subst e; injection h with h; subst h; rfl
      · simp at h
    · simp at h
  · split at h
    · rename_i e; rw [Nat.eq_of_beq_eq_true e]; rfl
    · simp at h
  · split at h
    · rename_i e; rw [Nat.eq_of_beq_eq_true e]; injection h with h; subst h; rfl
    · simp at h
  · split at h
    · rename_i e
      rw [Bool.and_eq_true] at e
      rw [Nat.eq_of_beq_eq_true e.1, Nat.eq_of_beq_eq_true e.2]; injection h with h; subst h; rfl
    · simp at h
  · split at h
    · rename_i e
      rw [Bool.and_eq_true, Bool.and_eq_true] at e
      rw [Nat.eq_of_beq_eq_true e.1, Nat.eq_of_beq_eq_true e.2.1, Nat.eq_of_beq_eq_true e.2.2]; rfl
    · simp at h
  · split at h
    · rename_i e
      subst e
      split at h
      · rename_i e; rw [Nat.eq_of_beq_eq_true e]; injection h with h; subst h; rfl
      · simp at h
    · simp at h
  · split at h
    · rename_i e
      rw [Nat.eq_of_beq_eq_true e]
      simp only [Option.bind_eq_some_iff, Option.map_eq_some_iff] at h
      obtain ⟨a, h1, b, h2, rfl⟩ := h
      rw [decPs_ok h1, decPs_ok h2]; rfl
    · simp at h
@[reducible] def HC : List CS → Type
  | [] => Unit | s :: r => s.den × HC r
def encCs : (l : List CS) → HC l → List CV
  | [], _ => [] | s :: r, x => s.enc x.1 :: encCs r x.2
def decCs : (l : List CS) → List CV → Option (HC l)
  | [], [] => some ()
  | s :: r, p :: q => (s.dec p).bind fun x => (decCs r q).map fun y => (x, y)
  | _, _ => none
theorem decCs_ok : ∀ {l : List CS} {p : List CV} {x : HC l}, decCs l p = some x → p = encCs l x
  | [], [], _, _ => rfl
  | [], _ :: _, _, h => by simp [decCs] at h
  | _ :: _, [], _, h => by simp [decCs] at h
  | s :: r, p :: q, x, h => by
    simp only [decCs, Option.bind_eq_some_iff, Option.map_eq_some_iff] at h
    obtain ⟨a, h1, b, h2, rfl⟩ := h
    rw [CS.dec_ok h1, decCs_ok h2]; rfl
/-- The shape of a value. -/
inductive VS where
  | undef | one (c : CS) | agg (cs : List CS) | tup (vs : List (Bool × List CS))
abbrev u : VS := .undef
@[reducible] def HT : List (Bool × List CS) → Type
  | [] => Unit | s :: r => HC s.2 × HT r
@[reducible] def VS.den : VS → Type
  | .undef => Unit | .one c => c.den | .agg cs => HC cs | .tup vs => HT vs
def encT : (l : List (Bool × List CS)) → HT l → List (Bool × List CV)
  | [], _ => [] | s :: r, x => (s.1, encCs s.2 x.1) :: encT r x.2
def VS.enc : (s : VS) → s.den → AV
  | .undef, _ => .undef | .one c, x => .one (c.enc x) | .agg cs, x => .agg (encCs cs x) | .tup vs, x => .tup (encT vs x)
def decT : (l : List (Bool × List CS)) → List (Bool × List CV) → Option (HT l)
  | [], [] => some ()
  | s :: r, p :: q => match p.1 == s.1 with | true => (decCs s.2 p.2).bind fun x => (decT r q).map fun y => (x, y) | false => none
  | _, _ => none
theorem decT_ok : ∀ {l : List (Bool × List CS)} {p : List (Bool × List CV)} {x : HT l}, decT l p = some x → p = encT l x
  | [], [], _, _ => rfl
  | [], _ :: _, _, h => by simp [decT] at h
  | _ :: _, [], _, h => by simp [decT] at h
  | s :: r, p :: q, x, h => by
    simp only [decT] at h
    split at h
    · rename_i e
      simp only [Option.bind_eq_some_iff, Option.map_eq_some_iff] at h
      obtain ⟨a, h1, b, h2, rfl⟩ := h
      have e1 : p.1 = s.1 := by simpa using e
      show p :: q = (s.1, encCs s.2 a) :: encT r b
      rw [← decT_ok h2, ← decCs_ok h1, ← e1]
    · simp at h
def VS.dec : (s : VS) → AV → Option s.den
  | .undef, .undef => some ()
  | .one s, .one c => s.dec c
  | .agg l, .agg cs => decCs l cs
  | .tup l, .tup vs => decT l vs
  | _, _ => none
theorem VS.dec_ok {s : VS} {c : AV} {x : s.den} (h : s.dec c = some x) : c = s.enc x := by
  cases s <;> cases c <;> simp only [VS.dec, reduceCtorEq] at h
  · rfl
  · rw [CS.dec_ok h]; rfl
  · rw [decCs_ok h]; rfl
  · rw [decT_ok h]; rfl
theorem PS.dec_enc (s : PS) (x : s.den) : s.dec (s.enc x) = some x := by
  cases s <;> simp [PS.enc, PS.dec]
theorem decPs_enc : ∀ (l : List PS) (x : HP l), decPs l (encPs l x) = some x
  | [], _ => rfl
  | s :: r, x => by simp [encPs, decPs, PS.dec_enc, decPs_enc r]
theorem CS.dec_enc (s : CS) (x : s.den) : s.dec (s.enc x) = some x := by
  cases s <;> simp [CS.enc, CS.dec, decPs_enc]
theorem decCs_enc : ∀ (l : List CS) (x : HC l), decCs l (encCs l x) = some x
  | [], _ => rfl
  | s :: r, x => by simp [encCs, decCs, CS.dec_enc, decCs_enc r]
theorem decT_enc : ∀ (l : List (Bool × List CS)) (x : HT l), decT l (encT l x) = some x
  | [], _ => rfl
  | s :: r, x => by simp [encT, decT, decCs_enc, decT_enc r]
theorem VS.dec_enc (s : VS) (x : s.den) : s.dec (s.enc x) = some x := by
  cases s <;> simp [VS.enc, VS.dec, CS.dec_enc, decCs_enc, decT_enc]
@[reducible] def HV : List VS → Type
  | [] => Unit | s :: r => s.den × HV r
def encVs : (l : List VS) → HV l → List AV
  | [], _ => [] | s :: r, x => s.enc x.1 :: encVs r x.2
def decVs : (l : List VS) → List AV → Option (HV l)
  | [], [] => some ()
  | s :: r, p :: q => (s.dec p).bind fun x => (decVs r q).map fun y => (x, y)
  | _, _ => none
theorem decVs_ok : ∀ {l : List VS} {p : List AV} {x : HV l}, decVs l p = some x → p = encVs l x
  | [], [], _, _ => rfl
  | [], _ :: _, _, h => by simp [decVs] at h
  | _ :: _, [], _, h => by simp [decVs] at h
  | s :: r, p :: q, x, h => by
    simp only [decVs, Option.bind_eq_some_iff, Option.map_eq_some_iff] at h
    obtain ⟨a, h1, b, h2, rfl⟩ := h
    rw [VS.dec_ok h1, decVs_ok h2]; rfl
/-- The shape of a slot. -/
inductive SS where
  | dead | row (live : Bool) (e : TypeId) (t : Ty) | box (t : Ty) (cs : List CS) | iter (k : IntKind) (v : Ty)
@[reducible] def SS.den : SS → Type
  | .dead => Unit | .row _ _ t => List t.den | .box _ cs => HC cs | .iter _ v => List (Unit × Int × v.den) × List Nat
def SS.enc : (s : SS) → s.den → Slot
  | .dead, _ => .dead | .row l e t, xs => .row l e t xs | .box t cs, x => .box t (encCs cs x) | .iter k v, x => .iter k v x.1 x.2
def SS.dec : (s : SS) → Slot → Option s.den
  | .dead, .dead => some ()
  | .row l e t, .row l' e' t' xs => if l' = l then match Nat.beq e' e with | true => if h : t' = t then some (h ▸ xs) else none | false => none else none
  | .box t cs, .box t' us => if t' = t then decCs cs us else none
  | .iter k v, .iter k' v' es seen => if k' = k then (if h : v' = v then some (h ▸ es, seen) else none) else none
  | _, _ => none
theorem SS.dec_ok {s : SS} {c : Slot} {x : s.den} (h : s.dec c = some x) : c = s.enc x := by
  cases s <;> cases c <;> simp only [SS.dec, reduceCtorEq] at h
  · rfl
  · split at h
    · rename_i e
      subst e
      split at h
      · rename_i e
        rw [Nat.eq_of_beq_eq_true e]
        split at h
        · rename_i e; subst e; injection h with h; subst h; rfl
        · simp at h
      · simp at h
    · simp at h
  · split at h
    · rename_i e; subst e; rw [decCs_ok h]; rfl
    · simp at h
  · split at h
    · rename_i e
      subst e
      split at h
      · rename_i e; subst e; injection h with h; subst h; rfl
      · simp at h
    · simp at h
@[reducible] def HS : List SS → Type
  | [] => Unit | s :: r => s.den × HS r
def encSs : (l : List SS) → HS l → List Slot
  | [], _ => [] | s :: r, x => s.enc x.1 :: encSs r x.2
def decSs : (l : List SS) → List Slot → Option (HS l)
  | [], [] => some ()
  | s :: r, p :: q => (s.dec p).bind fun x => (decSs r q).map fun y => (x, y)
  | _, _ => none
theorem decSs_ok : ∀ {l : List SS} {p : List Slot} {x : HS l}, decSs l p = some x → p = encSs l x
  | [], [], _, _ => rfl
  | [], _ :: _, _, h => by simp [decSs] at h
  | _ :: _, [], _, h => by simp [decSs] at h
  | s :: r, p :: q, x, h => by
    simp only [decSs, Option.bind_eq_some_iff, Option.map_eq_some_iff] at h
    obtain ⟨a, h1, b, h2, rfl⟩ := h
    rw [SS.dec_ok h1, decSs_ok h2]; rfl
/-- The shape of a state. -/
structure Sh where
  env : List VS
  heap : List SS
  roots : List CV
def eqRoots : List CV → List CV → Bool
  | [], [] => true
  | .ref h :: r, .ref h' :: r' => match Nat.beq h h' with | true => eqRoots r r' | false => false
  | .ptr h i o :: r, .ptr h' i' o' :: r' => match Nat.beq h h' && (Nat.beq i i' && Nat.beq o o') with | true => eqRoots r r' | false => false
  | _, _ => false
theorem eqRoots_ok : ∀ {l m : List CV}, eqRoots l m = true → l = m
  | [], [], _ => rfl
  | c :: r, d :: r', h => by
    cases c <;> cases d <;> simp only [eqRoots, reduceCtorEq, Bool.false_eq_true] at h
    · split at h
      · rename_i e; rw [Nat.eq_of_beq_eq_true e, eqRoots_ok h]
      · simp at h
    · split at h
      · rename_i e
        rw [Bool.and_eq_true, Bool.and_eq_true] at e
        rw [Nat.eq_of_beq_eq_true e.1, Nat.eq_of_beq_eq_true e.2.1, Nat.eq_of_beq_eq_true e.2.2, eqRoots_ok h]
      · simp at h
  | [], _ :: _, h => by simp [eqRoots] at h
  | c :: _, [], h => by cases c <;> simp [eqRoots] at h
@[reducible] def Sh.den (s : Sh) : Type := HV s.env × HS s.heap
def Sh.enc (s : Sh) (x : s.den) : St := ⟨encVs s.env x.1, encSs s.heap x.2, s.roots⟩
def Sh.dec (s : Sh) (st : St) : Option s.den := match eqRoots st.roots s.roots with | true => (decVs s.env st.env).bind fun x => (decSs s.heap st.heap).map fun y => (x, y) | false => none
theorem Sh.dec_ok {s : Sh} (st : St) (x : s.den) (h : s.dec st = some x) : st = s.enc x := by
  unfold Sh.dec at h
  split at h
  · rename_i hr
    simp only [Option.bind_eq_some_iff, Option.map_eq_some_iff] at h
    obtain ⟨a, h1, b, h2, rfl⟩ := h
    have := eqRoots_ok hr
    cases st
    simp only at h1 h2 this
    rw [decVs_ok h1, decSs_ok h2, this]; rfl
  · simp at h
/-! ### What a function is handed -/
/-- The shape of an argument. -/
inductive AS where
  | ty (t : Ty) | fptr (t : Ty) (off : Nat) | fn (f : FuncId) (a b : List PS) | cel (c : CS)
@[reducible] def AS.den : AS → Type
  | .ty t => t.den | .fptr t _ => t.den | .fn _ a b => HP a × HP b | .cel c => c.den
def AS.enc : (s : AS) → s.den → AV
  | .ty t, x => if t.isAgg then .agg (flat t x) else match flat t x with | [c] => .one c | _ => .undef
  | .fptr t off, x => .one (.fptr t x off)
  | .fn f a b, p => .one (.fn f (encPs a p.1) (encPs b p.2))
  | .cel s, x => .one (s.enc x)
def AS.dec : (s : AS) → AV → Option s.den
  | .ty t, v => match v with
    | .one c => match t.isAgg with | true => none | false => unflat1 t [c]
    | .agg cs => match t.isAgg with | true => unflat1 t cs | false => none
    | _ => none
  | .fptr t off, .one c => (CS.fptr t off).dec c
  | .fn f a b, .one c => (CS.fn f a b).dec c
  | .cel s, .one c => s.dec c
  | _, _ => none
theorem unflat_flat : ∀ {t : Ty} {cs : List CV} {x : t.den} {r : List CV}, unflat t cs = some (x, r) → cs = flat t x ++ r
  | .int k, cs, x, r, h => by
    cases cs with
    | nil => simp [unflat] at h
    | cons c cs => cases c <;> simp [unflat] at h; obtain ⟨rfl, rfl, rfl⟩ := h; rfl
  | .bool, cs, x, r, h => by
    cases cs with
    | nil => simp [unflat] at h
    | cons c cs => cases c <;> simp [unflat] at h; obtain ⟨rfl, rfl⟩ := h; rfl
  | .str, cs, x, r, h => by
    cases cs with
    | nil => simp [unflat] at h
    | cons c cs => cases c <;> simp [unflat] at h; obtain ⟨rfl, rfl⟩ := h; rfl
  | .sl t, cs, x, r, h => by
    cases cs with
    | nil => simp [unflat] at h
    | cons c cs =>
      cases c <;> simp only [unflat, reduceCtorEq] at h
      split at h
      · rename_i e; subst e; simp at h; obtain ⟨rfl, rfl⟩ := h; rfl
      · simp at h
  | .pair a b, cs, x, r, h => by
    simp only [unflat, Option.bind_eq_some_iff] at h
    obtain ⟨y, h1, z, h2, h3⟩ := h
    simp at h3
    obtain ⟨rfl, rfl⟩ := h3
    have e1 := unflat_flat (x := y.1) (r := y.2) h1
    have e2 := unflat_flat (x := z.1) (r := z.2) h2
    rw [e1, e2]
    simp [flat]
  | .unit, cs, x, r, h => by simp [unflat] at h; subst h; rfl
  | .opq, cs, x, r, h => by simp [unflat] at h
theorem unflat1_flat {t : Ty} {cs : List CV} {x : t.den} (h : unflat1 t cs = some x) : cs = flat t x := by
  simp only [unflat1, Option.bind_eq_some_iff] at h
  obtain ⟨p, h1, h2⟩ := h
  split at h2
  · rename_i hp
    injection h2 with h2
    subst h2
    have := unflat_flat (x := p.1) (r := p.2) h1
    rw [hp, List.append_nil] at this
    exact this
  · simp at h2
theorem AS.dec_ok {s : AS} {c : AV} {x : s.den} (h : s.dec c = some x) : c = s.enc x := by
  cases s with
  | ty t =>
    cases c with
    | one c =>
      simp only [AS.dec] at h
      split at h
      · simp at h
      · rename_i ha
        have := unflat1_flat h
        simp only [AS.enc, ha, Bool.false_eq_true, if_false]
        rw [← this]
    | agg cs =>
      simp only [AS.dec] at h
      split at h
      · rename_i ha
        have := unflat1_flat h
        simp only [AS.enc, ha, if_true]
        rw [← this]
      · simp at h
    | _ => simp [AS.dec] at h
  | fptr t off =>
    cases c <;> simp only [AS.dec, reduceCtorEq] at h
    rw [CS.dec_ok h]; rfl
  | fn f a b =>
    cases c <;> simp only [AS.dec, reduceCtorEq] at h
    rw [CS.dec_ok h]; rfl
  | cel s =>
    cases c <;> simp only [AS.dec, reduceCtorEq] at h
    rw [CS.dec_ok h]; rfl
@[reducible] def HA : List AS → Type
  | [] => Unit | s :: r => s.den × HA r
def encAs : (l : List AS) → HA l → List AV
  | [], _ => [] | s :: r, x => s.enc x.1 :: encAs r x.2
def decAs : (l : List AS) → List AV → Option (HA l)
  | [], [] => some ()
  | s :: r, p :: q => (s.dec p).bind fun x => (decAs r q).map fun y => (x, y)
  | _, _ => none
theorem decAs_ok : ∀ {l : List AS} {p : List AV} {x : HA l}, decAs l p = some x → p = encAs l x
  | [], [], _, _ => rfl
  | [], _ :: _, _, h => by simp [decAs] at h
  | _ :: _, [], _, h => by simp [decAs] at h
  | s :: r, p :: q, x, h => by
    simp only [decAs, Option.bind_eq_some_iff, Option.map_eq_some_iff] at h
    obtain ⟨a, h1, b, h2, rfl⟩ := h
    rw [AS.dec_ok h1, decAs_ok h2]; rfl
/-! ### Calls by a table -/
def encP (args : List AS) (heap : List SS) (roots : List CV) (a : HA args × HS heap) : Pack := ⟨encAs args a.1, encSs heap a.2, roots⟩
def decP (args : List AS) (heap : List SS) (roots : List CV) (p : Pack) : Option (HA args × HS heap) := match eqRoots p.roots roots with
  | true => (decAs args p.vs).bind fun x => (decSs heap p.heap).map fun y => (x, y)
  | false => none
theorem decP_ok {args : List AS} {heap : List SS} {roots : List CV} {p : Pack} {x : HA args × HS heap} (h : decP args heap roots p = some x) : p = encP args heap roots x := by
  unfold decP at h
  split at h
  · rename_i hr
    simp only [Option.bind_eq_some_iff, Option.map_eq_some_iff] at h
    obtain ⟨a, h1, b, h2, rfl⟩ := h
    have := eqRoots_ok hr
    cases p
    simp only at h1 h2 this
    rw [decAs_ok h1, decSs_ok h2, this]; rfl
  · simp at h
/-- A function that is told by lists and numbers. -/
structure Entry (P : Program) (C : Ctx) (pr : Prims) where
  id : FuncId
  args : List AS
  heap : List SS := []
  roots : List CV := []
  res : VS
  f : Nat → {R : Type} → HA args × HS heap → (res.den → Option R) → Option R
  ok : ∀ (k : Nat) {R : Type} (a : HA args × HS heap) (K : AV → Option R), aCallK P C pr k id (encP args heap roots a) K = f k a fun b => K (res.enc b)
section
variable {P : Program} {C : Ctx} {pr : Prims}
noncomputable def callT {R : Type} (k : Nat) : List (Entry P C pr) → CallK R
  | [], g, vs, K => aCallK P C pr k g vs K
  | e :: r, g, vs, K => match Nat.beq e.id g with
    | true => match decP e.args e.heap e.roots vs with
      | some a => e.f k a fun b => K (e.res.enc b)
      | none => callT k r g vs K
    | false => callT k r g vs K
theorem callT_eq {R : Type} (k : Nat) : ∀ (l : List (Entry P C pr)), (callT k l : CallK R) = fun g vs K => aCallK P C pr k g vs K
  | [] => rfl
  | e :: r => by
    funext g vs K
    simp only [callT]
    split
    · rename_i hg
      split
      · rename_i a ha
        rw [decP_ok ha, ← Nat.eq_of_beq_eq_true hg, e.ok]
      · rw [callT_eq k r]
    · rw [callT_eq k r]
/-- A function's entry. -/
theorem entry_ok {id : FuncId} {fn : Func} {args : List AS} {heap : List SS} {roots : List CV} {res : VS} {f : Nat → {R : Type} → HA args × HS heap → (res.den → Option R) → Option R} (hpr : pr id = none) (hf : P.funcs[id]? = some fn) (tbl : List (Entry P C pr)) (hnd : C.nd id = none)
    (h0 : ∀ {R : Type} (a : HA args × HS heap) (K : res.den → Option R), f 0 a K = none)
    (h : ∀ (k : Nat) {R : Type} (a : HA args × HS heap) (K : AV → Option R), aFun C id fn (callT k tbl) k (encP args heap roots a) K = f (k + 1) a fun b => K (res.enc b)) : ∀ (k : Nat) {R : Type} (a : HA args × HS heap) (K : AV → Option R), aCallK P C pr k id (encP args heap roots a) K = f k a fun b => K (res.enc b)
  | 0, R, a, K => (h0 a _).symm
  | k + 1, R, a, K => by
    rw [← h, callT_eq]
    simp only [aCallK, hpr, hf, hnd]
/-- A function that is not looked into. -/
theorem entry_cut {id : FuncId} {args : List AS} {heap : List SS} {roots : List CV} (hpr : pr id = some fun _ => none) : ∀ (k : Nat) {R : Type} (a : HA args × HS heap) (K : AV → Option R), aCallK P C pr k id (encP args heap roots a) K = none
  | 0, R, a, K => rfl
  | k + 1, R, a, K => by
    simp only [aCallK, hpr]
/-- A function that is told otherwise. -/
noncomputable def primK {α β : Type} (g : α → Option β) (k : Nat) {R : Type} (a : α) (K : β → Option R) : Option R := match k with
  | 0 => none
  | _ + 1 => match g a with | some b => K b | none => none
theorem entry_prim {id : FuncId} {args : List AS} {heap : List SS} {roots : List CV} {res : VS} {F : Pack → Option AV} {β : Type} {g : HA args × HS heap → Option β} (pack : β → res.den) (hpr : pr id = some F) (hg : ∀ a, F (encP args heap roots a) = (g a).map fun b => res.enc (pack b)) : ∀ (k : Nat) {R : Type} (a : HA args × HS heap) (K : AV → Option R), aCallK P C pr k id (encP args heap roots a) K = primK g k a fun b => K (res.enc (pack b))
  | 0, R, a, K => rfl
  | k + 1, R, a, K => by
    simp only [aCallK, hpr, hg, primK]
    cases g a <;> rfl
/-- A function that calls itself. -/
noncomputable def callS {R : Type} (k : Nat) (id : FuncId) (args : List AS) (heap : List SS) (roots : List CV) (res : VS) (f : Nat → {R : Type} → HA args × HS heap → (res.den → Option R) → Option R) (tbl : List (Entry P C pr)) : CallK R := fun g vs K => match Nat.beq id g with
  | true => match decP args heap roots vs with
    | some a => f k a fun b => K (res.enc b)
    | none => callT k tbl g vs K
  | false => callT k tbl g vs K
theorem entry_rec {id : FuncId} {fn : Func} {args : List AS} {heap : List SS} {roots : List CV} {res : VS} {f : Nat → {R : Type} → HA args × HS heap → (res.den → Option R) → Option R} (hpr : pr id = none) (hf : P.funcs[id]? = some fn) (tbl : List (Entry P C pr)) (hnd : C.nd id = none)
    (h0 : ∀ {R : Type} (a : HA args × HS heap) (K : res.den → Option R), f 0 a K = none)
    (h : ∀ (k : Nat) {R : Type} (a : HA args × HS heap) (K : AV → Option R), aFun C id fn (callS k id args heap roots res f tbl) k (encP args heap roots a) K = f (k + 1) a fun b => K (res.enc b)) : ∀ (k : Nat) {R : Type} (a : HA args × HS heap) (K : AV → Option R), aCallK P C pr k id (encP args heap roots a) K = f k a fun b => K (res.enc b)
  | 0, R, a, K => (h0 a _).symm
  | k + 1, R, a, K => by
    have e : ∀ {R : Type}, (callS k id args heap roots res f tbl : CallK R) = fun g vs K => aCallK P C pr k g vs K := by
      intro R
      funext g vs K
      simp only [callS]
      split
      · rename_i hg
        split
        · rename_i a ha
          rw [decP_ok ha, ← Nat.eq_of_beq_eq_true hg, entry_rec hpr hf tbl hnd h0 h k]
        · rw [callT_eq k tbl]
      · rw [callT_eq k tbl]
    rw [← h, e]
    simp only [aCallK, hpr, hf, hnd]
/-- A function in which the order of a map's keys is open: it must come to one result. -/
noncomputable def ndF (res : VS) (raw : (AV → Option AV) → Option AV) {R : Type} (K : res.den → Option R) : Option R := match raw some with
  | some r => match (res.dec r).map res.enc with
    | some _ => match res.dec r with | some b => K b | none => none
    | none => none
  | none => none
theorem nd_eq {res : VS} {b : res.den} {R : Type} (K : res.den → Option R) : ndF res (fun L => L (res.enc b)) K = K b := by
  simp only [ndF, VS.dec_enc, Option.map]
theorem entry_nd {id : FuncId} {fn : Func} {args : List AS} {heap : List SS} {roots : List CV} {res : VS} {raw : Nat → HA args × HS heap → (res.den → Option AV) → Option AV} (hpr : pr id = none) (hf : P.funcs[id]? = some fn) (tbl : List (Entry P C pr)) (hnd : C.nd id = some fun r => (res.dec r).map res.enc)
    (h0 : ∀ (a : HA args × HS heap) (K : res.den → Option AV), raw 0 a K = none)
    (h : ∀ (k : Nat) (a : HA args × HS heap) (K : AV → Option AV), aFun C.on id fn (callT k tbl) k (encP args heap roots a) K = raw (k + 1) a fun b => K (res.enc b)) : ∀ (k : Nat) {R : Type} (a : HA args × HS heap) (K : AV → Option R), aCallK P C pr k id (encP args heap roots a) K = ndF res (fun L => raw k a fun b => L (res.enc b)) fun b => K (res.enc b)
  | 0, R, a, K => by simp [aCallK, ndF, h0]
  | k + 1, R, a, K => by
    have e1 := h k a some
    rw [callT_eq] at e1
    simp only [aCallK, hpr, hf, hnd, ndF, e1]
    cases raw (k + 1) a fun b => some (res.enc b) with
    | none => rfl
    | some r =>
      simp only []
      cases hd : res.dec r with
      | none => rfl
      | some b => rfl
/-- What a table says is so. -/
theorem entry_call (e : Entry P C pr) (cx : CtxOk P C) (hn : C.nxt = false) (hg : ∀ (g : FuncId) (fn : Func), P.funcs[g]? = some fn → (fn.name == "runtime.NumGoroutine") = false) (hp : PrimsOk P pr) {k : Nat} {a : HA e.args × HS e.heap} {b : e.res.den} (h : ∀ {R : Type} (ret : e.res.den → Option R), e.f k a ret = ret b) : CallOK P e.id (encP e.args e.heap e.roots a) (e.res.enc b) := by
  have h1 : aCallK P C pr k e.id (encP e.args e.heap e.roots a) some = some (e.res.enc b) := by rw [e.ok, h]
  obtain ⟨r, h2, h3⟩ := call_all cx hn hg hp k e.id (encP e.args e.heap e.roots a) some _ h1
  injection h2 with h2
  rw [← h2]
  exact h3
end
end Go.Proofs.Ytanpdkllnmeenaa.Am
namespace Go.Proofs.Ytanpdkllnmeenaa.Am
open Go Go.RowKit
set_option linter.unusedVariables false
set_option linter.unusedSectionVars false
set_option linter.unusedSimpArgs false
/-- Do these cells say what a type begins with? -/
def zeroB : List CV → List Value → Bool
  | [], [] => true
  | c :: r, v :: s => (match c, v with
    | .nils, .slice none 0 0 => true
    | .int k n, .int k' m => decide (k' = k) && decide (m = n)
    | .bool b, .bool b' => b == b'
    | .str s, .string s' => s.data.toList.isEmpty && s'.data.toList.isEmpty
    | .undef, v => v.oneCell'
    | _, _ => false) && zeroB r s
  | _, _ => false
def repB : Ty → List Value → Bool
  | .int k, [.int k' n] => decide (k' = k) && decide (n = 0)
  | .bool, [.bool b] => !b
  | .str, [.string s] => s.data.toList.isEmpty
  | .sl t, [.slice _ 0 _] => !t.isMp
  | .pair a b, cs => repB a (cs.take a.size) && repB b (cs.drop a.size)
  | .unit, [] => true
  | _, _ => false
section
variable {P : Program} {C : Ctx}
theorem bytes_nil {s : ByteArray} (h : s.data.toList.isEmpty = true) : s = ByteArray.empty := by
  cases s with
  | mk d =>
    cases d with
    | mk l =>
      simp at h
      subst h
      rfl
theorem zeroB_ok {F : Nat → Prop} {w : World} {β : Bd} {H : Heap} : ∀ {cs : List CV} {vs : List Value}, zeroB cs vs = true → All2 (RepV F w β H) cs vs
  | [], [], _ => .nil
  | [], _ :: _, h => by simp [zeroB] at h
  | _ :: _, [], h => by simp [zeroB] at h
  | c :: r, v :: s, h => by
    simp only [zeroB, Bool.and_eq_true] at h
    refine .cons ?_ (zeroB_ok h.2)
    have h1 := h.1
    split at h1
    · rfl
    · simp at h1; obtain ⟨rfl, rfl⟩ := h1; rfl
    · simp at h1; subst h1; rfl
    · simp only [Bool.and_eq_true] at h1
      rw [bytes_nil h1.1, bytes_nil h1.2]; rfl
    · exact h1
    · simp at h1
theorem repB_ok {F : Nat → Prop} {w : World} : ∀ (t : Ty) (cs : List Value), repB t cs = true → RepC F w t t.dflt cs := by
  intro t
  induction t with
  | int k =>
    intro cs h
    match cs with
    | [] => simp [repB] at h
    | [v] => cases v <;> simp [repB] at h; obtain ⟨rfl, rfl⟩ := h; rfl
    | _ :: _ :: _ => simp [repB] at h
  | bool =>
    intro cs h
    match cs with
    | [] => simp [repB] at h
    | [v] => cases v <;> simp [repB] at h; subst h; rfl
    | _ :: _ :: _ => simp [repB] at h
  | str =>
    intro cs h
    match cs with
    | [] => simp [repB] at h
    | [v] =>
      cases v with
      | string s =>
        have := bytes_nil (s := s) (by simpa [repB] using h)
        subst this; rfl
      | _ => simp [repB] at h
    | _ :: _ :: _ => simp [repB] at h
  | sl t _ =>
    intro cs h
    match cs with
    | [] => simp [repB] at h
    | [v] =>
      cases v with
      | slice A n c =>
        cases n with
        | zero =>
          have hm : t.isMp = false := by simpa [repB] using h
          exact ⟨A, c, by rw [hdr_sl hm]; rfl, Nat.zero_le _, .inl ⟨rfl, fun h => by simp [hm] at h⟩⟩
        | succ n => simp [repB] at h
      | _ => simp [repB] at h
    | _ :: _ :: _ => simp [repB] at h
  | pair a b iha ihb =>
    intro cs h
    simp only [repB, Bool.and_eq_true] at h
    exact ⟨cs.take a.size, cs.drop a.size, (List.take_append_drop _ _).symm, iha _ h.1, ihb _ h.2⟩
  | unit =>
    intro cs h
    match cs with
    | [] => rfl
    | _ :: _ => simp [repB] at h
  | opq => intro cs h; simp [repB] at h
def elemB (P : Program) (e : TypeId) (t : Ty) : Bool :=
  match P.info? e with
  | some i => match i.zero with
    | some z => Nat.beq i.size t.size && (Nat.ble i.bytes 64 && (Nat.beq z.cells.size t.size && (repB t z.cells.toList && Nat.blt 0 t.size)))
    | none => false
  | none => false
def zeroMB (P : Program) (vt : TypeId) (v : Ty) : Bool :=
  match P.info? vt with
  | some i => match i.zero with
    | some z => (match v.isAgg with
      | true => (match z with | .agg a => repB v a.toList | _ => false)
      | false => repB v [z])
    | none => false
  | none => false
def mapB (P : Program) (kt vt : TypeId) : Ty → Bool
  | .pair .unit (.pair (.int k) v) => (match P.underlying kt with | some (.int k') => decide (k' = k) | _ => false) && zeroMB P vt v
  | _ => false
def descB (P : Program) (C : Ctx) (T : Ty) (d : TypeDesc) : Bool :=
  match T, d with
  | .int k, .int k' => decide (k' = k) | .int _, _ => false
  | .str, .string => true | .str, _ => false
  | .bool, .bool => true | .bool, _ => false
  | .sl e, .slice e' => !e.isMp && (Nat.beq e' (C.el e) && elemB P e' e) | .sl e, .map kt vt => mapB P kt vt e | .sl _, _ => false
  | _, _ => true
def tyB (P : Program) (C : Ctx) (t : TypeId) (T : Ty) : Bool :=
  match P.underlying t, P.info? t with
  | some d, some i => match i.zero with
    | some z => Nat.beq i.size T.size && ((d.isRow == T.isAgg) && (zeroB (zeroC T) z.cells.toList && descB P C T d))
    | none => false
  | _, _ => false
theorem zeroMB_ok {kt vt : TypeId} {k : IntKind} {v : Ty} (hk : P.underlying kt = some (.int k)) (h : zeroMB P vt v = true) : ∃ i z, MOk P kt vt k v i z := by
  unfold zeroMB at h
  split at h
  · rename_i i hi
    split at h
    · rename_i z hz
      refine ⟨i, z, hk, hi, hz, ?_⟩
      cases ha : v.isAgg with
      | true =>
        rw [ha] at h
        simp only at h ⊢
        split at h
        · rename_i a
          exact ⟨a, rfl, fun F w => repB_ok _ _ h⟩
        · simp at h
      | false =>
        rw [ha] at h
        simp only at h ⊢
        exact fun F w => repB_ok _ _ h
    · simp at h
  · simp at h
theorem mapB_ok {kt vt : TypeId} {k : IntKind} {v : Ty} (h : mapB P kt vt (.mpe k v) = true) : ∃ i z, MOk P kt vt k v i z := by
  simp only [mapB, Bool.and_eq_true] at h
  obtain ⟨h1, h2⟩ := h
  split at h1
  · rename_i k' hk
    simp at h1
    subst h1
    exact zeroMB_ok hk h2
  · simp at h1
theorem elemB_ok {e : TypeId} {t : Ty} (h : elemB P e t = true) : ∃ i z, EOk P e t i z := by
  unfold elemB at h
  split at h
  · rename_i i hi
    split at h
    · rename_i z hz
      simp only [Bool.and_eq_true] at h
      obtain ⟨h1, h2, h3, h4, h5⟩ := h
      exact ⟨i, z, hi, Nat.eq_of_beq_eq_true h1, Nat.le_of_ble_eq_true h2, hz, Nat.eq_of_beq_eq_true h3, fun F w => repB_ok t _ h4, Nat.le_of_ble_eq_true h5⟩
    · simp at h
  · simp at h
theorem tyB_ok {t : TypeId} {T : Ty} (h : tyB P C t T = true) : ∃ d i z, TOk P C t T d i z := by
  unfold tyB at h
  split at h
  · rename_i d i hd hi
    split at h
    · rename_i z hz
      simp only [Bool.and_eq_true, beq_iff_eq] at h
      obtain ⟨h1, h2, h3, h4⟩ := h
      refine ⟨d, i, z, hd, hi, Nat.eq_of_beq_eq_true h1, h2, hz, fun F w β H => zeroB_ok h3, fun k e => ?_, fun e => ?_, fun e => ?_, fun e he hm => ?_, fun k v he => ?_⟩
      · subst e; cases d <;> simp [descB] at h4; subst h4; rfl
      · subst e; cases d <;> simp [descB] at h4; rfl
      · subst e; cases d <;> simp [descB] at h4; rfl
      · subst he
        cases d with
        | slice e' =>
          simp only [descB, Bool.and_eq_true] at h4
          have e1 := Nat.eq_of_beq_eq_true h4.2.1
          rw [← e1]
          exact ⟨rfl, elemB_ok h4.2.2⟩
        | map kt vt =>
          simp only [descB] at h4
          unfold mapB at h4
          split at h4
          · simp [Ty.isMp] at hm
          · simp at h4
        | _ => simp [descB] at h4
      · subst he
        cases d with
        | slice e' => simp [descB, Ty.isMp] at h4
        | map kt vt =>
          obtain ⟨i, z, h⟩ := mapB_ok h4
          exact ⟨kt, vt, i, z, rfl, h⟩
        | _ => simp [descB] at h4
    · simp at h
  · simp at h
/-- A struct's places. -/
def placesB (P : Program) : List Field → Option (List (Nat × Nat))
  | [] => some []
  | f :: r => (P.info? f.type).bind fun i => (placesB P r).map fun l => (f.offset, i.size) :: l
theorem placesB_eq : ∀ l : List Field, l.mapM (fun f => (P.info? f.type).map fun i => (f.offset, i.size)) = placesB P l
  | [] => rfl
  | f :: r => by
    rw [List.mapM_cons, placesB_eq r, placesB]
    cases P.info? f.type with
    | none => rfl
    | some i => cases placesB P r <;> rfl
def fldB (P : Program) (s : TypeId) (f : Nat) (fl : Fld) : Bool :=
  match P.underlying s with
  | some (.struct fields) => match fields[f]? with
    | some fd => match P.info? fd.type, P.underlying fd.type, placesB P fields.toList with
      | some i, some d, some pl => Nat.beq fd.offset fl.off && (Nat.beq i.size fl.size && ((d.isRow == fl.agg) && (Nat.blt 0 fl.size && (match pl[f]? with | some p => Nat.beq p.1 fl.off && Nat.beq p.2 fl.size | none => false))))
      | _, _, _ => false
    | none => false
  | _ => false
theorem fldB_ok {s : TypeId} {f : Nat} {fl : Fld} (h : fldB P s f fl = true) : ∃ fields fd i d pl, FOk P s f fl fields fd i d pl := by
  unfold fldB at h
  split at h
  · rename_i fields hu
    split at h
    · rename_i fd hf
      split at h
      · rename_i i d pl hi hd hp
        simp only [Bool.and_eq_true, beq_iff_eq] at h
        obtain ⟨h1, h2, h3, h4, h5⟩ := h
        split at h5
        · rename_i p hpl
          simp only [Bool.and_eq_true] at h5
          exact ⟨fields, fd, i, d, pl, hu, hf, Nat.eq_of_beq_eq_true h1, hi, Nat.eq_of_beq_eq_true h2, hd, h3, Nat.le_of_ble_eq_true h4, by rw [placesB_eq]; exact hp, by rw [hpl, ← Nat.eq_of_beq_eq_true h5.1, ← Nat.eq_of_beq_eq_true h5.2]⟩
        · simp at h5
      · simp at h
    · simp at h
  · simp at h
/-! Structs that are compared. -/
def eqFB (P : Program) : List Field → List Ty → Nat → Bool
  | [], [], _ => true
  | f :: r, t :: T, n => (!(f.name == "_")) && (Nat.beq f.offset n && ((match t, P.underlying f.type with
    | .int _, some (.int _) => true
    | .bool, some .bool => true
    | .str, some .string => true
    | _, _ => false) && eqFB P r T (n + 1)))
  | _, _, _ => false
def eqTB (P : Program) (t : TypeId) (T : List Ty) : Bool := match P.underlying t with
  | some (.struct fs) => !P.stoodInHeld t && (!P.eqGuardType P.depth t && eqFB P fs.toList T 0)
  | _ => false
theorem eqFB_ok : ∀ {fs : List Field} {T : List Ty} {n : Nat}, eqFB P fs T n = true → EqFs P fs T n
  | [], [], _, _ => trivial
  | [], _ :: _, _, h => by simp [eqFB] at h
  | _ :: _, [], _, h => by simp [eqFB] at h
  | f :: r, t :: T, n, h => by
    simp only [eqFB, Bool.and_eq_true] at h
    obtain ⟨h1, h2, h3, h4⟩ := h
    refine ⟨by simpa using h1, Nat.eq_of_beq_eq_true h2, ?_, eqFB_ok h4⟩
    split at h3
    · rename_i k hk; exact ⟨_, hk⟩
    · assumption
    · assumption
    · simp at h3
theorem eqTB_ok {t : TypeId} {T : List Ty} (h : eqTB P t T = true) : EqOk P t T := by
  unfold eqTB at h
  split at h
  · rename_i fs hu
    have hf : P.fieldsOf t = fs := by simp [Program.fieldsOf, hu]
    simp only [Bool.and_eq_true] at h
    obtain ⟨h1, h2, h3⟩ := h
    exact ⟨by rw [hf]; exact hu, by simpa using h1, by simpa using h2, by rw [hf]; exact eqFB_ok h3⟩
  · simp at h
/-! Arrays. -/
def rowB (t : Ty) : Nat → List Value → Bool
  | 0, [] => true
  | n + 1, cs => repB t (cs.take t.size) && (Nat.beq (cs.take t.size).length t.size && rowB t n (cs.drop t.size))
  | _, _ => false
def arrB (P : Program) (t : TypeId) (n : Nat) (T : Ty) : Bool := match P.underlying t, P.info? t with
  | some (.array m e), some i => match i.zero, P.info? e with
    | some z, some ie => Nat.beq m n && (Nat.beq ie.size T.size && (!T.isMp && (Nat.blt 0 n && (Nat.ble n 1000000 && rowB T n z.cells.toList))))
    | _, _ => false
  | _, _ => false
theorem rowB_ok {t : Ty} : ∀ {n : Nat} {cs : List Value}, rowB t n cs = true → cs.length = n * t.size ∧ ∀ (F : Nat → Prop) (w : World), RowC (RepC F w t) t.size (List.replicate n t.dflt) cs
  | 0, [], _ => ⟨by simp, fun F w => ⟨by simp, fun i x h => by simp at h⟩⟩
  | 0, _ :: _, h => by simp [rowB] at h
  | n + 1, cs, h => by
    simp only [rowB, Bool.and_eq_true] at h
    obtain ⟨h1, h2, h3⟩ := h
    have h2 := Nat.eq_of_beq_eq_true h2
    obtain ⟨h4, h5⟩ := rowB_ok h3
    have hl : cs.length = (n + 1) * t.size := by
      rw [List.length_drop] at h4
      rw [List.length_take] at h2
      rw [Nat.add_mul]
      omega
    refine ⟨hl, fun F w => ?_⟩
    have a : RowC (RepC F w t) t.size [t.dflt] (cs.take t.size) := ⟨by rw [h2]; simp, fun i x hx => by
      cases i with
      | zero =>
        simp at hx
        subst hx
        rw [Nat.zero_mul, List.drop_zero, List.take_take, Nat.min_self]
        exact repB_ok _ _ h1
      | succ i => simp at hx⟩
    have := a.append (h5 F w)
    rw [List.take_append_drop] at this
    exact this
theorem arrB_ok {t : TypeId} {n : Nat} {T : Ty} (h : arrB P t n T = true) : ∃ e i ie z, ArrOk P t n T e i ie z := by
  unfold arrB at h
  split at h
  · rename_i m e i hu hi
    split at h
    · rename_i z ie hz he
      simp only [Bool.and_eq_true, Bool.not_eq_true'] at h
      obtain ⟨h1, h2, h3, h4, h5, h6⟩ := h
      have e1 := Nat.eq_of_beq_eq_true h1
      subst e1
      have e6 := rowB_ok h6
      exact ⟨e, i, ie, z, hu, hi, hz, he, Nat.eq_of_beq_eq_true h2, h3, Nat.le_of_ble_eq_true h4, Nat.le_of_ble_eq_true h5, by rw [← Array.length_toList]; exact e6.1, fun F w => e6.2 F w⟩
    · simp at h
  · simp at h
theorem look_mem {α : Type} : ∀ {l : List (Nat × α)} {t : Nat} {x : α}, look l t = some x → (t, x) ∈ l
  | [], _, _, h => by simp [look] at h
  | (k, v) :: r, t, x, h => by
    simp only [look] at h
    split at h
    · rename_i e
      injection h with h
      subst h
      rw [Nat.eq_of_beq_eq_true e]
      simp
    · exact List.mem_cons_of_mem _ (look_mem h)
theorem all_ok {α : Type} {p : α → Bool} {l : List α} (h : l.all p = true) {x : α} (hx : x ∈ l) : p x = true := List.all_eq_true.1 h x hx
/-- The context out of tables. -/
theorem ctx_ok {tys : List (Nat × Ty)} {flds : List (Nat × List (Nat × Fld))} (h1 : C.ty = look tys) (h2 : C.fld = fun s f => (look flds s).bind fun l => look l f) (h3 : tys.all (fun p => tyB P C p.1 p.2) = true) (h4 : flds.all (fun p => p.2.all fun q => fldB P p.1 q.1 q.2) = true) (h5 : P.follows .mixedOrders = true) {eqs : List (Nat × List Ty)} (h6 : C.eqs = look eqs) (h7 : eqs.all (fun p => eqTB P p.1 p.2) = true) {nds : List (Nat × VS)} (h8 : C.nd = fun f => (look nds f).map fun (s : VS) (r : AV) => (s.dec r).map s.enc) {arrs : List (Nat × Nat × Ty)} (h9 : C.arr = look arrs) (h10 : arrs.all (fun p => arrB P p.1 p.2.1 p.2.2) = true) : CtxOk P C := by
  refine ⟨fun t T h => ?_, fun s f fl h => ?_, h5, fun t T h => by rw [h6] at h; exact eqTB_ok (all_ok h7 (look_mem h)), fun f nf r r' e1 e2 => by
    rw [h8] at e1
    simp only [Option.map_eq_some_iff] at e1
    obtain ⟨s, _, rfl⟩ := e1
    simp only [Option.map_eq_some_iff] at e2
    obtain ⟨x, h9, rfl⟩ := e2
    exact (VS.dec_ok h9).symm, fun t n T h => by rw [h9] at h; exact arrB_ok (all_ok h10 (look_mem h))⟩
  · rw [h1] at h
    exact tyB_ok (all_ok h3 (look_mem h))
  · rw [h2] at h
    simp only [Option.bind_eq_some_iff] at h
    obtain ⟨l, e1, e2⟩ := h
    exact fldB_ok (all_ok (all_ok h4 (look_mem e1)) (look_mem e2))
theorem names_ok {fs : List Func} (h1 : P.funcs.toList = fs) (h2 : fs.all (fun fn => !(fn.name == "runtime.NumGoroutine")) = true) : ∀ (g : FuncId) (fn : Func), P.funcs[g]? = some fn → (fn.name == "runtime.NumGoroutine") = false := by
  intro g fn h
  have hm : fn ∈ fs := by
    rw [← h1]
    exact List.mem_of_getElem? (by rw [Array.getElem?_toList]; exact h)
  simpa using all_ok h2 hm
end
end Go.Proofs.Ytanpdkllnmeenaa.Am
namespace Go.Proofs.Ytanpdkllnmeenaa.Am
open Go Go.RowKit
set_option linter.unusedVariables false
set_option linter.unusedSectionVars false
/-- Within the bounds that a row's data have. -/
def wfT : (t : Ty) → t.den → Prop
  | .int k, n => (Lit.int k n).wf = true
  | .bool, _ => True
  | .str, s => s.size ≤ 140737488351232
  | .sl t, xs => xs.length ≤ 140737488351232 ∧ ∀ x ∈ xs, wfT t x
  | .pair a b, p => wfT a p.1 ∧ wfT b p.2
  | .unit, _ => True
  | .opq, _ => False
/-- The fields from a place on. -/
def deepF (P : Program) (g : Ty → TypeId → Bool) : Ty → List Field → Nat → Bool
  | T, [f], off => Nat.beq f.offset off && (Nat.beq (P.cellsOf f.type) T.size && g T f.type)
  | .pair a b, f :: r, off => Nat.beq f.offset off && (Nat.beq (P.cellsOf f.type) a.size && (g a f.type && deepF P g b r (off + a.size)))
  | _, _, _ => false
/-- Does a type say what the machine's type says, all the way down? -/
def deepB (P : Program) : Nat → Ty → TypeId → Bool
  | 0, _, _ => false
  | n + 1, .int k, t => match P.underlying t with | some (.int k') => decide (k' = k) | _ => false
  | n + 1, .bool, t => match P.underlying t with | some .bool => true | _ => false
  | n + 1, .str, t => match P.underlying t with | some .string => true | _ => false
  | n + 1, .sl e, t => !e.isMp && match P.underlying t with | some (.slice e') => Nat.beq (P.cellsOf e') e.size && (Nat.blt 0 (P.bytesOf e') && (Nat.blt 0 e.size && deepB P n e e')) | _ => false
  | n + 1, T, t => match P.underlying t with
    | some (.struct fs) => Nat.beq (P.cellsOf t) T.size && (match fs.toList, T with
      | [f], .pair a .unit => Nat.beq f.offset 0 && (Nat.beq (P.cellsOf f.type) a.size && deepB P n a f.type)
      | l, T => deepF P (deepB P n) T l 0)
    | _ => false
abbrev Old (W : World) : Nat → Prop := fun g => g < W.heap.size
section
variable {P : Program}
structure Opn (P : Program) (T : Ty) (t : TypeId) : Prop where
  run : ∀ {H : Type} {enc : TypeId × Value → H} {W : World} {base : Nat} {spare : Nat → Bool} {held : Bool} {fuel : Nat} {cs : List Value} {x : DataW H × List MemPlace}, DataW.trod enc P W base spare held fuel t cs = some x → (∀ z ∈ DataW.weights P t x.1, z ≤ reachBytes) → ∃ a : T.den, RepC (Old W) W T a cs ∧ wfT T a
theorem opn_int {t : TypeId} {k : IntKind} (ht : P.underlying t = some (.int k)) : Opn P (.int k) t := by
  constructor
  intro H enc W base spare held fuel cs x h _
  obtain ⟨n, rfl, _, hw⟩ := DataW.trod_int ht h
  exact ⟨n, rfl, hw⟩
theorem opn_bool {t : TypeId} (ht : P.underlying t = some .bool) : Opn P .bool t := by
  constructor
  intro H enc W base spare held fuel cs x h _
  obtain ⟨b, rfl, _⟩ := DataW.trod_bool ht h
  exact ⟨b, rfl, trivial⟩
theorem opn_str {t : TypeId} (ht : P.underlying t = some .string) : Opn P .str t := by
  constructor
  intro H enc W base spare held fuel cs x h hz
  obtain ⟨s, rfl, rfl, _⟩ := DataW.trod_string ht h
  refine ⟨s, rfl, ?_⟩
  have := hz _ (show s.data.toList.length ∈ _ by simp [DataW.weights])
  rw [Array.length_toList] at this
  exact this
theorem choose_list {α : Type} (Q : Nat → α → Prop) : ∀ n, (∀ i, i < n → ∃ a, Q i a) → ∃ l : List α, l.length = n ∧ ∀ i a, l[i]? = some a → Q i a
  | 0, _ => ⟨[], rfl, fun i a h => by simp at h⟩
  | n + 1, h => by
    obtain ⟨l, hl, hq⟩ := choose_list Q n (fun i hi => h i (by omega))
    obtain ⟨a, ha⟩ := h n (by omega)
    refine ⟨l ++ [a], by simp [hl], fun i b hb => ?_⟩
    by_cases hi : i < n
    · rw [List.getElem?_append_left (by omega)] at hb; exact hq i b hb
    · have hlt := (List.getElem?_eq_some_iff.1 hb).1
      simp at hlt
      have : i = n := by omega
      subst this
      rw [List.getElem?_append_right (by omega), hl, Nat.sub_self] at hb
      simp at hb
      subst hb
      exact ha
theorem weights_mem {H : Type} {e : TypeId} : ∀ {ds : List (DataW H)} {d : DataW H}, d ∈ ds → ∀ n ∈ d.weights P e, n ∈ DataW.weightsAll P e ds
  | d0 :: ds, d, hd, n, hn => by
    unfold DataW.weightsAll
    rcases List.mem_cons.mp hd with rfl | hd
    · exact List.mem_append_left _ hn
    · exact List.mem_append_right _ (weights_mem hd n hn)
theorem opn_sl {t e : TypeId} {T : Ty} (ht : P.underlying t = some (.slice e)) (hm : T.isMp = false) (hsz : P.cellsOf e = T.size) (hB : 0 < P.bytesOf e) (hpos : 0 < T.size) (he : Opn P T e) : Opn P (.sl T) t := by
  constructor
  intro H enc W base spare held fuel cs x h hz
  rcases DataW.trod_slice ht h with ⟨rfl, rfl⟩ | ⟨a, len, cap, elems, rest, n, _, rfl, rfl, hb, hl, hmx, hlen, hel, _, _⟩
  · exact ⟨[], ⟨none, 0, by rw [hdr_sl hm]; rfl, Nat.le_refl _, .inl ⟨rfl, fun _ => rfl⟩⟩, by simp, fun x hx => by simp at hx⟩
  · have hw : ∀ z ∈ (elems.length + rest.length) * P.bytesOf e :: (DataW.weightsAll P e (elems.map (·.1)) ++ DataW.weightsAll P e (rest.map (·.1))), z ≤ reachBytes := by
      have := hz
      unfold DataW.weights at this
      rw [ht] at this
      simpa using this
    have each : ∀ i, i < len → ∃ v : (y : T.den) × List Value, wfT T v.1 ∧ v.2.length = T.size ∧ RepC (Old W) W T v.1 v.2 ∧ ∀ j u, v.2[j]? = some u → W.cell? (a.add (i * T.size + j)) = some u := by
      intro i hi
      have h1 := hel i hi
      have hi' : i < elems.length := by omega
      rw [List.getElem?_eq_getElem hi', Option.bind_eq_some_iff] at h1
      obtain ⟨c, hc, ht2⟩ := h1
      obtain ⟨_, hcl, hcc⟩ := World.cells?_some hc
      obtain ⟨v, hK, hwf⟩ := he.run ht2 (fun z hz2 => hw z (List.mem_cons_of_mem _ (List.mem_append_left _ (weights_mem (List.mem_map_of_mem (List.getElem_mem hi')) z hz2))))
      refine ⟨⟨v, c⟩, hwf, by rw [hcl, hsz], hK, fun j u hu => ?_⟩
      have hj : j < P.cellsOf e := by have := (List.getElem?_eq_some_iff.1 hu).1; simp only at this; omega
      have h3 := hcc j hj
      rw [hu, Addr.add_add, hsz] at h3
      exact h3
    obtain ⟨l, hll, hq⟩ := choose_list _ len each
    have hle : (elems.length + rest.length) * P.bytesOf e ≤ reachBytes := hw _ List.mem_cons_self
    refine ⟨l.map (·.1), ?_, ?_, fun x hx => ?_⟩
    · refine ⟨some a, cap, by rw [hdr_sl hm, List.length_map, hll], by rw [List.length_map]; omega, ?_⟩
      by_cases h0 : len = 0
      · left
        refine ⟨by rw [List.length_eq_zero_iff.1 (hll.trans h0)]; rfl, fun h => by simp [hm] at h⟩
      · right
        have hl0 : 0 < l.length := by omega
        obtain ⟨_, hc0, _, hcell0⟩ := hq 0 l[0] (List.getElem?_eq_getElem hl0)
        have h00 := hcell0 0 l[0].2[0] (List.getElem?_eq_getElem (by omega))
        have hadd0 : a.add (0 * T.size + 0) = a := by simp [Addr.add]
        rw [hadd0] at h00
        have hspot := World.cell?_spot h00
        have hblk : a.block < W.heap.size := World.block_lt_of_cell? W a h00
        obtain ⟨g, o, sp⟩ := a
        simp only at hspot
        subst hspot
        refine ⟨g, o, (l.map (·.2)).flatten, rfl, hblk, ⟨?_, fun i x hx => ?_⟩, (lies_sl hm).2 ?_⟩
        · have hfl : ∀ y ∈ l, (y.2).length = T.size := fun y hy => by
            obtain ⟨i, hi⟩ := List.getElem?_of_mem hy
            exact (hq i y hi).2.1
          rw [flat_len (f := fun y : (y : T.den) × List Value => y.2) hfl, List.length_map]
        · rw [List.getElem?_map, Option.map_eq_some_iff] at hx
          obtain ⟨y, hy, rfl⟩ := hx
          rw [flat_at (f := fun y : (y : T.den) × List Value => y.2) (fun y hy => by
            obtain ⟨i, hi⟩ := List.getElem?_of_mem hy
            exact (hq i y hi).2.1) hy]
          exact (hq i y hy).2.2.1
        · intro j u hu
          have hfl : ∀ y ∈ l, (y.2).length = T.size := fun y hy => by
            obtain ⟨i, hi⟩ := List.getElem?_of_mem hy
            exact (hq i y hi).2.1
          have hjl := (List.getElem?_eq_some_iff.1 hu).1
          rw [flat_len (f := fun y : (y : T.den) × List Value => y.2) hfl] at hjl
          have hi : j / T.size < l.length := by rw [Nat.div_lt_iff_lt_mul hpos]; exact hjl
          have hmod : j % T.size < T.size := Nat.mod_lt _ hpos
          have hdm : j / T.size * T.size + j % T.size = j := by rw [Nat.mul_comm]; exact Nat.div_add_mod j T.size
          have hch := flat_at (f := fun y : (y : T.den) × List Value => y.2) hfl (List.getElem?_eq_getElem hi)
          have hu2 : (l[j / T.size].2)[j % T.size]? = some u := by
            rw [← hch, List.getElem?_take_of_lt hmod, List.getElem?_drop, hdm]
            exact hu
          have := (hq _ _ (List.getElem?_eq_getElem hi)).2.2.2 _ u hu2
          rw [hdm, Addr.add_mid] at this
          exact this
    · rw [List.length_map, hll]
      have h4 : len * 1 ≤ (elems.length + rest.length) * P.bytesOf e := Nat.mul_le_mul (by omega) hB
      have : reachBytes = 140737488351232 := rfl
      omega
    · obtain ⟨y, hy, rfl⟩ := List.mem_map.1 hx
      obtain ⟨i, hi⟩ := List.getElem?_of_mem hy
      exact (hq i y hi).1
structure OpnF (P : Program) (T : Ty) (l : List Field) (off : Nat) : Prop where
  run : ∀ {H : Type} {enc : TypeId × Value → H} {W : World} {base : Nat} {spare : Nat → Bool} {held : Bool} {n : Nat} {cs : List Value} {xs : List (DataW H × List MemPlace)}, cs.length = off + T.size → xs.length = l.length →
  (∀ (i : Nat) (f : Field), l[i]? = some f → ((cs.drop f.offset).take (P.cellsOf f.type) |> DataW.trod enc P W base spare held n f.type) = xs[i]?) → (∀ z ∈ DataW.weightsEach P (l.map (·.type)) (xs.map (·.1)), z ≤ reachBytes) → ∃ a : T.den, RepC (Old W) W T a (cs.drop off) ∧ wfT T a
theorem opnF_one {T : Ty} {f : Field} {off : Nat} (ho : f.offset = off) (hs : P.cellsOf f.type = T.size) (h : Opn P T f.type) : OpnF P T [f] off := by
  constructor
  intro H enc W base spare held n cs xs hl hx ht hz
  have h0 := ht 0 f rfl
  match xs, hx with
  | [x], _ =>
    rw [ho, hs, List.take_of_length_le (by rw [List.length_drop, hl]; omega)] at h0
    exact h.run h0 (fun z hz2 => hz z (by simp [DataW.weightsEach]; exact hz2))
theorem opnF_cons {A B : Ty} {f : Field} {r : List Field} {off : Nat} (ho : f.offset = off) (hs : P.cellsOf f.type = A.size) (h : Opn P A f.type) (h2 : OpnF P B r (off + A.size)) : OpnF P (.pair A B) (f :: r) off := by
  constructor
  intro H enc W base spare held n cs xs hl hx ht hz
  have hl' : cs.length = off + (A.size + B.size) := hl
  match xs, hx with
  | x :: xs', hx =>
    have h0 := ht 0 f rfl
    try simp only at h0
    rw [ho, hs] at h0
    obtain ⟨a, hK, hw⟩ := h.run h0 (fun z hz2 => hz z (by simp only [List.map_cons, DataW.weightsEach]; exact List.mem_append_left _ hz2))
    obtain ⟨b, hK2, hw2⟩ := h2.run (cs := cs) (xs := xs') (by omega) (by simpa using hx) (fun i g hg => by
      have := ht (i + 1) g hg
      simpa using this) (fun z hz2 => hz z (by simp only [List.map_cons, DataW.weightsEach]; exact List.mem_append_right _ hz2))
    refine ⟨(a, b), ⟨(cs.drop off).take A.size, cs.drop (off + A.size), ?_, hK, hK2⟩, hw, hw2⟩
    rw [← List.drop_drop, List.take_append_drop]
theorem deepF_ok {g : Ty → TypeId → Bool} (hg : ∀ T t, g T t = true → Opn P T t) : ∀ {T : Ty} {l : List Field} {off : Nat}, deepF P g T l off = true → OpnF P T l off
  | T, [f], off, h => by
    unfold deepF at h
    simp only [Bool.and_eq_true] at h
    exact opnF_one (Nat.eq_of_beq_eq_true h.1) (Nat.eq_of_beq_eq_true h.2.1) (hg _ _ h.2.2)
  | .pair a b, f :: f2 :: r, off, h => by
    simp only [deepF, Bool.and_eq_true] at h
    exact opnF_cons (Nat.eq_of_beq_eq_true h.1) (Nat.eq_of_beq_eq_true h.2.1) (hg _ _ h.2.2.1) (deepF_ok hg h.2.2.2)
  | T, [], off, h => by cases T <;> simp [deepF] at h
  | .int _, _ :: _ :: _, _, h | .bool, _ :: _ :: _, _, h | .str, _ :: _ :: _, _, h | .sl _, _ :: _ :: _, _, h | .unit, _ :: _ :: _, _, h | .opq, _ :: _ :: _, _, h => by simp [deepF] at h
theorem opn_struct {t : TypeId} {fs : Array Field} {T : Ty} (ht : P.underlying t = some (.struct fs)) (hs : P.cellsOf t = T.size) (h : OpnF P T fs.toList 0) : Opn P T t := by
  constructor
  intro H enc W base spare held fuel cs x hx hz
  obtain ⟨xs, n, _, rfl, hl, hxl, hf⟩ := DataW.trod_struct ht hx
  have := h.run (cs := cs) (xs := xs) (by omega) (by simpa using hxl) (fun i f hi => hf i f (by rw [← Array.getElem?_toList]; exact hi)) (fun z hz2 => hz z (by unfold DataW.weights; rw [ht]; exact hz2))
  rwa [List.drop_zero] at this
theorem deep_ok : ∀ {n : Nat} {T : Ty} {t : TypeId}, deepB P n T t = true → Opn P T t
  | 0, _, _, h => by simp [deepB] at h
  | n + 1, .int k, t, h => by
    simp only [deepB] at h
    split at h
    · rename_i k' hk; simp at h; subst h; exact opn_int hk
    · simp at h
  | n + 1, .bool, t, h => by
    simp only [deepB] at h
    split at h
    · rename_i hk; exact opn_bool hk
    · simp at h
  | n + 1, .str, t, h => by
    simp only [deepB] at h
    split at h
    · rename_i hk; exact opn_str hk
    · simp at h
  | n + 1, .sl e, t, h => by
    simp only [deepB, Bool.and_eq_true, Bool.not_eq_true'] at h
    obtain ⟨hm, h⟩ := h
    split at h
    · rename_i e' hk
      simp only [Bool.and_eq_true] at h
      exact opn_sl hk hm (Nat.eq_of_beq_eq_true h.1) (Nat.le_of_ble_eq_true h.2.1) (Nat.le_of_ble_eq_true h.2.2.1) (deep_ok h.2.2.2)
    · simp at h
  | n + 1, .pair a b, t, h => by
    simp only [deepB] at h
    split at h
    · rename_i fs hk
      simp only [Bool.and_eq_true] at h
      refine opn_struct hk (Nat.eq_of_beq_eq_true h.1) ?_
      have h2 := h.2
      split at h2
      · rename_i f a' hfs hT
        injection hT with e1 e2
        subst e1 e2
        simp only [Bool.and_eq_true] at h2
        rw [hfs]
        constructor
        intro H enc W base spare held m cs xs hl hx ht hz
        obtain ⟨y, h5, h6⟩ := (opnF_one (Nat.eq_of_beq_eq_true h2.1) (Nat.eq_of_beq_eq_true h2.2.1) (deep_ok h2.2.2)).run (cs := cs) (xs := xs) (by simpa [Ty.size] using hl) hx ht hz
        exact ⟨(y, ()), ⟨cs.drop 0, [], by simp, h5, rfl⟩, h6, trivial⟩
      · exact deepF_ok (g := deepB P n) (fun T t h => deep_ok h) h2
    · simp at h
  | n + 1, .unit, t, h => by
    simp only [deepB] at h
    split at h
    · rename_i fs hk
      simp only [Bool.and_eq_true] at h
      exact opn_struct hk (Nat.eq_of_beq_eq_true h.1) (deepF_ok (g := deepB P n) (fun T t h => deep_ok h) (by
        have h2 := h.2
        split at h2
        · rename_i hT; cases hT
        · exact h2))
    · simp at h
  | n + 1, .opq, t, h => by
    simp only [deepB] at h
    split at h
    · rename_i fs hk
      simp only [Bool.and_eq_true] at h
      exact opn_struct hk (Nat.eq_of_beq_eq_true h.1) (deepF_ok (g := deepB P n) (fun T t h => deep_ok h) (by
        have h2 := h.2
        split at h2
        · rename_i hT; cases hT
        · exact h2))
    · simp at h
/-- An argument of a row. -/
theorem arg_open {T : Ty} {t : TypeId} (ho : Opn P T t) {H : Type} {enc : TypeId × Value → H} {W : World} {base : Nat} {spare : Nat → Bool} {held : Bool} {v : Value} {x : DataW H} {ps : List MemPlace} (h : DataW.Trod enc P W base spare held t v x ps)
    {ts : List TypeId} {ds : List (DataW H)} (hsz : (DataW.weightsEach P ts ds).all (· ≤ reachBytes) = true) {j : Nat} (ht : ts[j]? = some t) (hd : ds[j]? = some x) : ∃ a : T.den, RepC (Old W) W T a v.cells.toList ∧ wfT T a := by
  obtain ⟨fuel, hf⟩ := h
  exact ho.run hf (fun z hz => by
    have := List.all_eq_true.1 hsz _ (DataW.weights_mem_each ht hd z hz)
    simpa using this)
theorem cells_agg {v : Value} (h : ∀ cs, v ≠ .agg cs) : v.cells.toList = [v] := by cases v <;> first | rfl | exact absurd rfl (h _)
theorem arg_rep {T : Ty} {W : World} {a : T.den} {v : Value} (h : RepC (Old W) W T a v.cells.toList) (hv : match T.isAgg with | true => ∃ cs, v = .agg cs | false => ∀ cs, v ≠ .agg cs) : RepA (Old W) W (fun _ => none) [] ((AS.ty T).enc a) v := by
  cases hT : T.isAgg with
  | true =>
    simp only [hT] at hv
    obtain ⟨cs, rfl⟩ := hv
    simp only [AS.enc, hT, if_true]
    exact ⟨cs, rfl, rep_flat h⟩
  | false =>
    simp only [hT] at hv
    simp only [AS.enc, hT, Bool.false_eq_true, if_false]
    rw [cells_agg hv] at h
    have := rep_flat (β := fun _ => none) (H := []) h
    cases hf : flat T a with
    | nil => rw [hf] at this; cases this
    | cons c r =>
      rw [hf] at this
      cases this with
      | cons r1 r2 =>
        cases r2
        exact r1
theorem okWide_agg {w : World} {r : Reach} {base : Nat} {t : TypeId} {v : Value} {fs : Array Field} (ht : P.underlying t = some (.struct fs)) (h : Value.okWide P w r base t v) : ∃ cs, v = .agg cs := by
  simp only [Value.okWide, ht] at h
  obtain ⟨cs, h, _⟩ := h
  exact ⟨cs, h⟩
/-- A law that returns true. -/
theorem law_true {C : Ctx} {pr : Prims} (e : Entry P C pr) (cx : CtxOk P C) (hn : C.nxt = false) (hg : ∀ (g : FuncId) (fn : Func), P.funcs[g]? = some fn → (fn.name == "runtime.NumGoroutine") = false) (hp : PrimsOk P pr) {fn : Func} {c : Code} (hf : P.funcs[e.id]? = some fn) (hb : fn.body = some c) (h0 : e.heap = []) (hr0 : e.roots = []) (hres : e.res = .one .bool) {k : Nat} {a : HA e.args × HS e.heap} {b : e.res.den}
    (henc : e.res.enc b = .one (.bool true)) (h : ∀ {R : Type} (ret : e.res.den → Option R), e.f k a ret = ret b) {W : World} {args : Array Value} (hargs : All2 (RepA (Old W) W (fun _ => none) []) (encAs e.args a.1) args.toList) : Calls P e.id args W fun x W' => x = .returned (.bool true) ∧ Below W.heap.size W W' := by
  have hc := entry_call e cx hn hg hp h
  rw [henc] at hc
  have hpk : (encP e.args e.heap e.roots a).heap = [] := by
    show encSs e.heap a.2 = []
    have : ∀ (l : List SS) (x : HS l), l = [] → encSs l x = [] := fun l x hl => by subst hl; rfl
    exact this _ _ h0
  have hrt : (encP e.args e.heap e.roots a).roots = [] := hr0
  rcases hc (fun _ => False) W (Old W) (fun _ => none) args [] (by rw [hpk]; exact good_start fun b h => h) (by rw [hpk]; exact hargs) (by rw [hrt]; exact .nil) with ⟨_, h2⟩ | ⟨v, w', F', h1, _⟩
  · refine h2.mono ?_
    rintro x W' ⟨v, F', rfl, hres⟩
    refine ⟨?_, ⟨hres.below.os, hres.below.tape, hres.below.output, hres.below.size, fun k hk => hres.below.block k hk id⟩⟩
    obtain ⟨us, hl, _, hall⟩ := hres.rep
    have hr := (hall 0 (fun _ => none) [] (fun j s hs => by simp [adoptA, adopt1] at hs) (fun j u hu => by
      have h3 : us.length = 0 := hl
      have := List.length_eq_zero_iff.1 h3
      subst this
      simp at hu)).1
    have hr' : v = .bool true := hr
    rw [hr']
  · rw [run_enter hf (hg _ _ hf) hb] at h1
    simp at h1
end
end Go.Proofs.Ytanpdkllnmeenaa.Am

namespace Go.Proofs.Ytanpdkllnmeenaa.Am
open Go Go.RowKit Go.Shelf
set_option linter.unusedVariables false
set_option linter.unusedSectionVars false
/-- A new row without elements. -/
def growF (e : TypeId) (t : Ty) : Pack → Option AV
  | ⟨[.one .nils, .one (.int .i64 n)], [], []⟩ => match decide (0 ≤ n) && decide (n < 1099511627776) with
    | true => some (.one (.own e t []))
    | false => none
  | _ => none
def growL {α : Type} (n : Int) : Option (List α) := match decide (0 ≤ n) && decide (n < 1099511627776) with
  | true => some []
  | false => none
theorem growF_eq {e : TypeId} {t : Ty} {n : Int} : growF e t ⟨[.one .nils, .one (.int .i64 n)], [], []⟩ = (growL n).map fun xs => .one (.own e t xs) := by
  unfold growF growL
  simp only []
  cases decide (0 ≤ n) && decide (n < 1099511627776) <;> rfl
theorem own_one {w w' : World} {F' : Nat → Prop} {e : TypeId} {t : Ty} {xs : List t.den} {v : Value} (hv : SlotOk (Fr w) F' w' (fun _ => none) [] (.row true e t xs) v) (h1 : v.oneCell' = true) : RepR (Fr w) F' w' (.one (.own e t xs)) v := by
  refine ⟨[v], rfl, fun j j' u u' g hu hu' _ _ => ?_, fun n β H hH hβ => ⟨?_, fun j s u hs hu => ?_⟩⟩
  · have h2 := (List.getElem?_eq_some_iff.1 hu).1
    have h3 := (List.getElem?_eq_some_iff.1 hu').1
    simp at h2 h3
    omega
  · have e0 := hβ 0 v rfl
    have e1 := hH 0 _ rfl
    rw [Nat.add_zero] at e0 e1
    simp only [adoptA, adopt1, RepA, RepV, e1]
    exact ⟨e0, h1⟩
  · cases j with
    | zero =>
      simp [adoptA, adopt1] at hs hu
      subst hs hu
      exact hv
    | succ j => simp at hu
theorem grow_ok {P : Program} {ρ : Ren} (L : Lays8.n4 P ρ) {e : TypeId} (he : ρ.t 25 = e) {t : Ty} {i : TypeInfo} {z : Value} (ek : EOk P e t i z) (hm : t.isMp = false) {p : Pack} {r : AV} (h : growF e t p = some r) : CallOK P (ρ.f 4) p r := by
  subst he
  unfold growF at h
  split at h
  case h_2 => simp at h
  rename_i n
  split at h
  case h_2 => simp at h
  rename_i hn
  injection h with h
  subst h
  simp at hn
  refine CallOK.of0 fun w F args hF hargs => ?_
  obtain ⟨args⟩ := args
  simp only at hargs
  match args, hargs with
  | [v0, v1], .cons r0 (.cons r1 .nil) =>
    have e0 : v0 = .slice none 0 0 := r0
    have e1 : v1 = .int .i64 n := r1
    subst e0 e1
    have hb := ek.bytes
    have hp := ek.pos
    left
    refine ⟨L.f4.enters rfl _ w, ?_⟩
    obtain ⟨m, rfl⟩ : ∃ m : Nat, n = m := ⟨n.toNat, by omega⟩
    by_cases hm0 : m = 0
    · subst hm0
      refine (Any8.slices_Grow_room L none 0 0 0 w (by omega) (by omega) (by omega) (by omega)).mono ?_
      rintro e w' ⟨rfl, rfl⟩
      refine ⟨_, F, rfl, Below.refl _ _, hF, fun g h _ => h, own_one ⟨⟨[], (owns_sl hm).2 ⟨by simp, .inl ⟨rfl, rfl⟩⟩, ⟨by simp, fun i x h => by simp at h⟩⟩, fun g h => by simp [blk] at h⟩ rfl⟩
    · have hmb : (0 + m) * i.bytes ≤ 140737488355328 := by
        have : (0 + m) * i.bytes ≤ (0 + m) * 64 := Nat.mul_le_mul_left _ hb
        omega
      refine (Any8.slices_Grow_grow L i z ek.info ek.zero (by rw [ek.size]; exact hp) none 0 0 m [] w (by omega) (by omega) hmb (by omega) (by simp) (fun _ => rfl) (fun a h => by simp at h)).mono ?_
      rintro e w' ⟨rfl, rfl⟩
      have hge := grownCap_ge w (0 + m) 0 (ρ.t 25)
      have hle := grownCap_le_maxLen w (0 + m) 0 (ρ.t 25) (by simp [maxLen]; omega)
      have hbel : Below w.heap.size w (w.drew.alloc (.cells ([].toArray ++ Builtin.zeroCells z.cells (0 + m - 0) ++ Builtin.zeroCells z.cells (grownCap w (0 + m) 0 (ρ.t 25) - (0 + m))) (ρ.t 25))) := ⟨rfl, rfl, rfl, by simp, fun k hk => heap_alloc_old w.drew _ hk⟩
      refine ⟨_, F, rfl, hbel, fun g h => Nat.lt_of_lt_of_le (hF g h) hbel.size, fun g h _ => h, own_one ⟨⟨[], (owns_sl hm).2 ⟨by simp, .inr ⟨w.heap.size, 0, _, _, rfl, heap_alloc_new w.drew _, Nat.zero_le _, hle, ?_, by simp⟩⟩, ⟨by simp, fun i x h => by simp at h⟩⟩, fun g h => ?_⟩ rfl⟩
      · simp only [Array.size_append, size_zeroCells, ek.zsize, List.size_toArray, List.length_nil]
        rw [Nat.zero_add, Nat.zero_add, Nat.zero_add, Nat.sub_zero, ← Nat.add_mul]
        refine Nat.mul_le_mul_right _ ?_
        simp at hge
        omega
      · simp [blk] at h
        subst h
        exact ⟨Nat.le_refl _, fun h => absurd (hF _ h) (by omega)⟩
end Go.Proofs.Ytanpdkllnmeenaa.Am
namespace Go.Proofs.Ytanpdkllnmeenaa.Am
open Go Go.RowKit Go.Shelf
set_option linter.unusedVariables false
set_option linter.unusedSectionVars false
section
variable {α : Type} (key : α → Int)
def insK (x : α) : List α → List α
  | [] => [x]
  | y :: r => if key x ≤ key y then x :: y :: r else y :: insK x r
def srtK : List α → List α
  | [] => []
  | x :: r => insK key x (srtK r)
theorem insK_perm (x : α) : ∀ l : List α, (insK key x l).Perm (x :: l)
  | [] => .refl _
  | y :: r => by
    unfold insK
    split
    · exact .refl _
    · exact ((insK_perm x r).cons y).trans (.swap x y r)
theorem srtK_perm : ∀ l : List α, (srtK key l).Perm l
  | [] => .refl _
  | x :: r => (insK_perm key x _).trans ((srtK_perm r).cons x)
theorem insK_sorted (x : α) : ∀ l : List α, l.Pairwise (fun a b => key a ≤ key b) → (insK key x l).Pairwise (fun a b => key a ≤ key b)
  | [], _ => List.pairwise_singleton _ _
  | y :: r, h => by
    unfold insK
    rw [List.pairwise_cons] at h
    split
    · rename_i c
      rw [List.pairwise_cons, List.pairwise_cons]
      exact ⟨fun z hz => by
        rcases List.mem_cons.1 hz with rfl | hz
        · exact c
        · have := h.1 z hz; omega, h⟩
    · rename_i c
      rw [List.pairwise_cons]
      refine ⟨fun z hz => ?_, insK_sorted x r h.2⟩
      rcases List.mem_cons.1 ((insK_perm key x r).mem_iff.1 hz) with rfl | hz
      · omega
      · exact h.1 z hz
theorem srtK_sorted : ∀ l : List α, (srtK key l).Pairwise (fun a b => key a ≤ key b)
  | [] => .nil
  | x :: r => insK_sorted key x _ (srtK_sorted r)
theorem nodup_pw {l : List α} (h : (l.map key).Nodup) (hs : l.Pairwise (fun a b => key a ≤ key b)) : l.Pairwise (fun a b => key a < key b) := by
  have h1 := List.pairwise_map.1 (List.nodup_iff_pairwise_ne.1 h)
  exact (h1.and hs).imp fun ⟨a, b⟩ => by omega
theorem sorted_eq : ∀ {a b : List α}, a.Perm b → a.Pairwise (fun a b => key a < key b) → b.Pairwise (fun a b => key a < key b) → a = b
  | [], b, h, _, _ => (List.Perm.nil_eq h)
  | x :: a, [], h, _, _ => absurd h.length_eq (by simp)
  | x :: a, y :: b, h, h1, h2 => by
    rw [List.pairwise_cons] at h1 h2
    have hxy : x = y := by
      rcases List.mem_cons.1 (h.mem_iff.1 List.mem_cons_self) with e | hx
      · exact e
      · rcases List.mem_cons.1 (h.mem_iff.2 List.mem_cons_self) with e | hy
        · exact e.symm
        · have := h2.1 x hx
          have := h1.1 y hy
          omega
    subst hxy
    rw [sorted_eq h.cons_inv h1.2 h2.2]
def sortL (xs : List α) : Option (List α) := if (xs.map key).Nodup ∧ xs.length < 1099511627776 then some (srtK key xs) else none
end
def sortF (e : TypeId) (t : Ty) (key : t.den → Int) (f : FuncId) : Pack → Option AV
  | ⟨[.one (.ref 0), .one (.fn f' [] [])], [.row true e' t' xs], [.ref 0]⟩ => if h : t' = t then
      match Nat.beq e' e && Nat.beq f' f with
      | true => (sortL key (h ▸ xs : List t.den)).map fun ys => .tup [(false, [.own e t ys])]
      | false => none
    else none
  | _ => none
theorem sortF_eq {e : TypeId} {t : Ty} {key : t.den → Int} {f : FuncId} {xs : List t.den} : sortF e t key f ⟨[.one (.ref 0), .one (.fn f [] [])], [.row true e t xs], [.ref 0]⟩ = (sortL key xs).map fun ys => (VS.tup [(false, [.own e t])]).enc ((ys, ()), ()) := by
  unfold sortF
  simp only [dite_true, Nat.beq_refl, Bool.and_self]
  cases sortL key xs <;> rfl
open Go.Sort in
theorem sw_heap {α : Type} [Inhabited α] {enc : α → List Value} {k g o m : Nat} {w : World} {dk : Array α} {os : Array Obj} {cur : Array Value} {e : TypeId} {fr : Nat × Nat} (h : w.heap[g]? = some (.cells cur e fr)) :
    (sortWorldK enc k w g o m dk os).heap[g]? = some (.cells (putCells id o (flatK enc k dk) cur) e fr) := by
  have hlt := (Array.getElem?_eq_some_iff.1 h).1
  show (((w.heap.modify g (onCells (putCells id o (flatK enc k dk)))) ++ os)[g]?) = _
  rw [Array.getElem?_append_left (by simpa using hlt), Array.getElem?_modify, if_pos rfl, h]
  rfl
open Go.Sort in
theorem sw_other {α : Type} [Inhabited α] {enc : α → List Value} {k g o m : Nat} {w : World} {dk : Array α} {os : Array Obj} {q : Nat} (hq : q ≠ g) (hlt : q < w.heap.size) :
    (sortWorldK enc k w g o m dk os).heap[q]? = w.heap[q]? := by
  show (((w.heap.modify g (onCells (putCells id o (flatK enc k dk)))) ++ os)[q]?) = _
  rw [Array.getElem?_append_left (by simpa using hlt), Array.getElem?_modify, if_neg (fun e => hq e.symm)]
open Go.Sort in
theorem sw_size {α : Type} [Inhabited α] {enc : α → List Value} {k g o m : Nat} {w : World} {dk : Array α} {os : Array Obj} : w.heap.size ≤ (sortWorldK enc k w g o m dk os).heap.size := by
  show w.heap.size ≤ ((w.heap.modify g (onCells (putCells id o (flatK enc k dk)))) ++ os).size
  simp
/-- A comparison of two elements, in whatever memory they lie. -/
def CmpOk (P : Program) (f : FuncId) (t : Ty) (key : t.den → Int) : Prop :=
  ∀ (W : World) (F : Nat → Prop) (a b : t.den) (c1 c2 : List Value), RepC F W t a c1 → RepC F W t b c2 → Calls P f #[.agg c1.toArray, .agg c2.toArray] W fun e w' => e = .returned (.int .i64 (Lib.compareInt (key a) (key b))) ∧ ∃ q os', w' = Sort.grow (W.drewN q) os'
section
variable {P : Program} {C : Ctx} {ρ : Ren}
open Go.Sort
theorem cmp_lt (x y : Int) : decide (Lib.compareInt x y < 0) = decide (x < y) := by
  unfold Lib.compareInt
  by_cases h1 : x < y
  · simp [h1]
  · by_cases h2 : y < x <;> simp [h1, h2]
theorem cmp_swo {α : Type} (kf : α → Int) : SWO (ltOf fun i j => Lib.compareInt (kf i) (kf j)) where
  irrefl x := by unfold ltOf; rw [cmp_lt]; simp
  trans x y z h1 h2 := by unfold ltOf at *; rw [cmp_lt] at *; simp at *; omega
  ntrans x y z h1 h2 := by unfold ltOf at *; rw [cmp_lt] at *; simp at *; omega
theorem sort_ok (L : SlLaysF0.n6 P ρ) {e : TypeId} (he : ρ.t 24 = e) {t : Ty} {d : TypeDesc} {i0 i : TypeInfo} {z0 z : Value} (tk : TOk P C e t d i0 z0) (ek : EOk P e t i z) (hagg : t.isAgg = true) (hm : t.isMp = false) {key : t.den → Int} {f : FuncId} (ef : ∀ args w, (callFunc f args).run P w = .ok (.enter f args) w) (hc : CmpOk P f t key) {p : Pack} {r : AV} (h : sortF e t key f p = some r) : CallOK P (ρ.f 6) p r := by
  subst he
  unfold sortF at h
  split at h
  case h_2 => simp at h
  rename_i f' e' t' xs
  split at h
  case isFalse => simp at h
  rename_i ht
  subst ht
  split at h
  case h_2 => simp at h
  rename_i hb
  simp only [Bool.and_eq_true] at hb
  have e1 := Nat.eq_of_beq_eq_true hb.1
  have e2 := Nat.eq_of_beq_eq_true hb.2
  subst e1 e2
  simp only [Option.map_eq_some_iff] at h
  obtain ⟨ys, hs, rfl⟩ := h
  unfold sortL at hs
  split at hs
  case isFalse => simp at hs
  rename_i hcond
  obtain ⟨hnd, hlen⟩ := hcond
  injection hs with hs
  intro LN w F β args X gd hargs hX
  obtain ⟨args⟩ := args
  simp only at hargs
  match args, hargs, X, hX with
  | [v, fv], .cons r0 (.cons r1 .nil), [x], .cons rx .nil =>
  obtain ⟨va, vb, hfv, ha, hb'⟩ := r1
  have hva : va = #[] := by cases va; cases ha; rfl
  have hvb : vb = #[] := by cases vb; cases hb'; rfl
  subst hva hvb hfv
  simp only [RepA, RepV, List.getElem?_cons_zero] at r0 rx
  have hxv : x = v := by have := r0.1.symm.trans rx.1; simpa using this.symm
  subst hxv
  have ok := gd.slot r0.1 (show ([Slot.row true (ρ.t 24) t' xs])[0]? = some _ from rfl)
  obtain ⟨⟨cells, hown, hrow⟩, hbase⟩ := ok
  rw [owns_sl hm] at hown
  left
  refine ⟨L.f6.enters rfl _ w, ?_⟩
  -- what is to show of the row behind it
  have fin : ∀ (w' : World), BelowL LN w w' → (∃ cells', ownsAt w' (ρ.t 24) t'.size x ys.length cells' ∧ RowC (RepC F w' t') t'.size ys cells') → (∀ g, F g → g < w'.heap.size) →
      ∃ v F', (Ending.returned (.tuple #[]) = .returned v) ∧ CResL LN w F [x] (.tup [(false, [.own (ρ.t 24) t' ys])]) v w' F' := by
    intro w' hbel ⟨cells', ho, hr⟩ hF
    refine ⟨_, F, rfl, hbel, hF, fun g h _ => h, fun g h => h, ?_⟩
    refine ⟨_, [], rfl, rfl, [x], [x], ⟨rfl, fun j j' u u' g hu hu' _ _ => ?_, fun n β' H hH hβ => ⟨?_, fun j s u hs hu => ?_⟩⟩, rfl, fun j y ct hj hct => ?_⟩
    · have h2 := (List.getElem?_eq_some_iff.1 hu).1
      have h3 := (List.getElem?_eq_some_iff.1 hu').1
      simp at h2 h3
      omega
    · have e0 := hβ 0 x rfl
      have e1 := hH 0 _ rfl
      rw [Nat.add_zero] at e0 e1
      simp only [adoptA, adoptT, adoptL, adopt1, RepA]
      refine ⟨_, rfl, .cons ⟨_, rfl, ?_⟩ .nil⟩
      simp only [RepV, e1]
      exact ⟨e0, r0.2⟩
    · cases j with
      | zero =>
        simp [adoptA, adoptT, adoptL, adopt1] at hs hu
        subst hs hu
        exact ⟨⟨cells', (owns_sl hm).2 ho, hr⟩, hbase⟩
      | succ j => simp at hu
    · cases j with
      | zero =>
        simp at hj hct
        subst hj hct
        refine .inl ⟨.inl ?_, rfl⟩
        obtain ⟨_, h | ⟨g, o, cap, cur, h, _⟩⟩ := hown
        · exact ⟨none, 0, 0, h.1⟩
        · exact ⟨_, _, _, h⟩
      | succ j => simp at hj
  have hyl : ys.length = xs.length := by rw [← hs]; exact (srtK_perm key xs).length_eq
  by_cases h0 : xs.length = 0
  · have hx0 : xs = [] := List.length_eq_zero_iff.1 h0
    subst hx0
    have hv : ∃ A c, x = .slice A 0 c := by
      obtain ⟨_, h | ⟨g, o, cap, cur, h, _⟩⟩ := hown
      · exact ⟨none, 0, h.1⟩
      · exact ⟨_, _, h⟩
    obtain ⟨A, c, hv⟩ := hv
    have := AnyF.slices_SortFunc_none L A c (.func (.func f') #[] #[]) w
    rw [← hv] at this
    refine this.mono ?_
    rintro e w' ⟨rfl, rfl⟩
    have hys : ys = [] := by rw [← hs]; rfl
    subst hys
    exact fin w' (BelowL.refl _ _) ⟨cells, hown, hrow⟩ gd.fsz
  · obtain ⟨hcl, h | ⟨g, o, cap, cur, hv, hheap, hn, hcap, hfit, htake⟩⟩ := hown
    · exact absurd h.2 h0
    have hg := hbase g (by rw [hv]; rfl)
    have hpos := ek.pos
    let enc : Nat → List Value := fun j => if j < xs.length then (cells.drop (j * t'.size)).take t'.size else z.cells.toList
    have hget : ∀ j, xs.getD j t'.dflt = (xs[j]?).getD t'.dflt := fun j => List.getD_eq_getElem?_getD
    have henc : ∀ j, RepC F w t' (xs.getD j t'.dflt) (enc j) := fun j => by
      show RepC F w t' _ (if j < xs.length then _ else _)
      by_cases hj : j < xs.length
      · rw [if_pos hj, hget, List.getElem?_eq_getElem hj]
        exact hrow.2 j _ (List.getElem?_eq_getElem hj)
      · rw [if_neg hj, hget, List.getElem?_eq_none (by omega)]
        exact ek.rep _ _
    have hk : ∀ j, (enc j).length = t'.size := fun j => (henc j).len
    have h1 : ∀ j, ∀ v ∈ enc j, v.oneCell' = true := fun j => (henc j).one
    let dd : Array Nat := Array.range xs.length
    have hds : dd.size = xs.length := by simp [dd]
    have hdd : ∀ j, j < xs.length → dd[j]! = j := fun j hj => by simp [dd, hj]
    have hcell : ∀ j, j < xs.length * t'.size → (flatK enc t'.size dd)[j]! = cells[j]! := fun j hj => by
      have hq : j / t'.size < xs.length := by rw [Nat.div_lt_iff_lt_mul hpos]; exact hj
      rw [get_flatK _ _ _ _ (by rw [hds]; exact hj), hdd _ hq]
      show ((if j / t'.size < xs.length then (cells.drop (j / t'.size * t'.size)).take t'.size else z.cells.toList))[j % t'.size]! = _
      rw [if_pos hq, List.getElem!_eq_getElem?_getD, List.getElem!_eq_getElem?_getD, List.getElem?_take_of_lt (Nat.mod_lt _ hpos), List.getElem?_drop, show j / t'.size * t'.size + j % t'.size = j by rw [Nat.mul_comm]; exact Nat.div_add_mod j _]
    have hsize : (flatK enc t'.size dd).size = xs.length * t'.size := by rw [size_flatK, hds]
    have hcur : ∀ j, j < cells.length → cur[o + j]? = some cells[j]! := fun j hj => by
      have : (List.take (xs.length * t'.size) (List.drop o cur.toList))[j]? = some cells[j]! := by
        rw [htake, List.getElem!_eq_getElem?_getD, List.getElem?_eq_getElem hj]; rfl
      rw [List.getElem?_take_of_lt (by omega), List.getElem?_drop, Array.getElem?_toList] at this
      exact this
    have hH : HoldsK enc t'.size w g o dd := fun j hj => by
      rw [hsize] at hj
      refine ⟨?_, ?_⟩
      · show w.cell? ⟨g, o + j, none⟩ = some (id _)
        rw [hcell j hj]
        simp only [World.cell?, hheap]
        have := hcur j (by omega)
        simpa using this
      · simp [World.frozen?, hheap]
    have hgl : g < w.heap.size := (Array.getElem?_eq_some_iff.1 hheap).1
    have keepF : ∀ (m : Nat) (dk : Array Nat) (os : Array Obj) (q : Nat), F q → (sortWorldK enc t'.size w g o m dk os).heap[q]? = w.heap[q]? := fun m dk os q hq => sw_other (fun e => hg.2 (e ▸ hq)) (gd.fsz q hq)
    have hcmp : CmpLays P f' #[] enc t'.size (fun a b => Lib.compareInt (key (xs.getD a t'.dflt)) (key (xs.getD b t'.dflt))) g o dd.size w := fun m os dk _ a b => by
      have := hc (sortWorldK enc t'.size w g o m dk os) F _ _ _ _ ((henc a).mono (fun _ h => h) (keepF m dk os)) ((henc b).mono (fun _ h => h) (keepF m dk os))
      simpa using this
    have main := AnyQ.slices_SortFunc L t'.size (fun w => by rw [run_isAgg' tk.und, tk.row, hagg]) (fun w => by simp [sizeOf, run_typeInfo w ek.info, ek.size]) enc hk h1 _ (cmp_swo fun a => key (xs.getD a t'.dflt)) f' #[] g o cap dd w ef hcmp hH hgl (by rw [hds]; omega)
    rw [hds, ← hv] at main
    refine main.mono ?_
    rintro e w' ⟨rfl, d', m, os, hp, hsrt, rfl⟩
    have hd's : d'.size = xs.length := by rw [hp.1, hds]
    have hperm : d'.toList.Perm (List.range xs.length) := by
      have := hp.2.2
      rw [← hd's, Array.extract_size, hd's, ← hds, Array.extract_size] at this
      simpa [dd] using this
    have hmem : ∀ j, j < xs.length → d'[j]! < xs.length := fun j hj => by
      have h1 : d'[j]! ∈ d'.toList := by
        rw [getElem!_pos d' j (by omega)]
        exact Array.getElem_mem_toList (by omega)
      have := hperm.mem_iff.1 h1
      rwa [List.mem_range] at this
    have hys : ys = d'.toList.map (fun a => xs.getD a t'.dflt) := by
      rw [← hs]
      refine sorted_eq key ?_ (nodup_pw key ?_ (srtK_sorted key xs)) (nodup_pw key ?_ ?_)
      · refine (srtK_perm key xs).trans ?_
        have : xs = (List.range xs.length).map (fun a => xs.getD a t'.dflt) := by
          apply List.ext_getElem (by simp)
          intro j h1 h2
          rw [List.getElem_map, List.getElem_range, hget, List.getElem?_eq_getElem h1]; rfl
        conv => lhs; rw [this]
        exact (hperm.map _).symm
      · exact ((srtK_perm key xs).map key).nodup_iff.2 hnd
      · have h2 : (d'.toList.map (fun a => xs.getD a t'.dflt)).Perm xs := by
          have : xs = (List.range xs.length).map (fun a => xs.getD a t'.dflt) := by
            apply List.ext_getElem (by simp)
            intro j h1 h2
            rw [List.getElem_map, List.getElem_range, hget, List.getElem?_eq_getElem h1]; rfl
          conv => rhs; rw [this]
          exact hperm.map _
        exact (h2.map key).nodup_iff.2 hnd
      · rw [List.pairwise_map, List.pairwise_iff_getElem]
        intro a b ha hb hab
        have := hsrt a b (Nat.zero_le _) hab (by simpa [hd's] using hb)
        unfold ltOf at this
        rw [cmp_lt] at this
        simp at ha hb
        rw [getElem!_pos d' a ha, getElem!_pos d' b hb] at this
        simp at this ⊢
        omega
    have hyget : ∀ j, j < xs.length → ys[j]? = some (xs.getD d'[j]! t'.dflt) := fun j hj => by
      rw [hys, List.getElem?_map, Array.getElem?_toList, getElem!_pos d' j (by omega), Array.getElem?_eq_getElem (by omega)]; rfl
    have hfs : (flatK enc t'.size d').size = xs.length * t'.size := by rw [size_flatK, hd's]
    have hmul : xs.length * t'.size ≤ cap * t'.size := Nat.mul_le_mul_right _ hn
    refine fin (sortWorldK enc t'.size w g o m d' os) ⟨rfl, rfl, rfl, sw_size, fun q hq hL => sw_other (fun e => by
      subst e
      rcases hg.1 with h | h
      · omega
      · exact hL h) hq⟩ ⟨(flatK enc t'.size d').toList, ⟨by rw [Array.length_toList, hfs, hyl], .inr ⟨g, o, cap, _, by rw [hv, hyl], sw_heap hheap, by omega, hcap, by unfold putCells; simpa using hfit, ?_⟩⟩, ⟨by rw [Array.length_toList, hfs, hyl], fun j y hj => ?_⟩⟩ (fun q hq => Nat.lt_of_lt_of_le (gd.fsz q hq) sw_size)
    · apply List.ext_getElem?
      intro j
      by_cases hj : j < xs.length * t'.size
      · rw [List.getElem?_take_of_lt (by rw [hyl]; exact hj), List.getElem?_drop, Array.getElem?_toList, Array.getElem?_toList]
        unfold putCells
        have hb := hcur j (by omega)
        rw [Array.getElem?_mapIdx, hb]
        simp only [Option.map_some, id]
        rw [if_pos ⟨by omega, by rw [hfs]; omega⟩, Nat.add_sub_cancel_left, getElem!_pos _ j (by rw [hfs]; exact hj), Array.getElem?_eq_getElem (by rw [hfs]; exact hj)]
      · rw [List.getElem?_eq_none (by rw [List.length_take, hyl]; omega), List.getElem?_eq_none (by rw [Array.length_toList, hfs]; omega)]
    · have hjl : j < xs.length := by rw [← hyl]; exact (List.getElem?_eq_some_iff.1 hj).1
      rw [hyget j hjl] at hj
      injection hj with hj
      subst hj
      have : ((flatK enc t'.size d').toList.drop (j * t'.size)).take t'.size = enc d'[j]! := by
        have hj2 : j * t'.size + t'.size ≤ xs.length * t'.size := by
          have := Nat.mul_le_mul_right t'.size (show j + 1 ≤ xs.length from hjl)
          rwa [Nat.add_mul, Nat.one_mul] at this
        apply List.ext_getElem?
        intro q
        by_cases hq : q < t'.size
        · have e3 : (j * t'.size + q) / t'.size = j := by rw [Nat.mul_comm, Nat.mul_add_div hpos, Nat.div_eq_of_lt hq, Nat.add_zero]
          have e4 : (j * t'.size + q) % t'.size = q := by rw [Nat.mul_comm, Nat.mul_add_mod, Nat.mod_eq_of_lt hq]
          rw [List.getElem?_take_of_lt hq, List.getElem?_drop, Array.getElem?_toList, Array.getElem?_eq_getElem (by rw [hfs]; omega), ← getElem!_pos _ (j * t'.size + q) (by rw [hfs]; omega), get_flatK _ _ _ _ (by rw [hd's]; omega), e3, e4, List.getElem!_eq_getElem?_getD, List.getElem?_eq_getElem (by rw [hk]; exact hq)]
          rfl
        · rw [List.getElem?_eq_none (by rw [List.length_take]; omega), List.getElem?_eq_none (by rw [hk]; omega)]
      rw [this]
      exact (henc _).mono (fun _ h => h) (keepF m d' os)
end
end Go.Proofs.Ytanpdkllnmeenaa.Am

/- The machine goes one way. -/
import Derived.Test.YtanpdkllnmeenaaAmCore
namespace Go.Proofs.Ytanpdkllnmeenaa.Am
open Go
set_option linter.unusedVariables false
set_option linter.unusedSectionVars false
set_option linter.unusedSimpArgs false
abbrev CallF := ∀ {R : Type}, CallK R
def DetC (call : CallF) : Prop := ∀ g vs {R : Type} (K : AV → Option R) (out : R), call g vs K = some out → ∃ r, K r = some out ∧ ∀ {R' : Type} (K' : AV → Option R'), call g vs K' = K' r
section
variable {C : Ctx} {call : CallF} (hd : DetC call) (hn : C.nxt = false)
include hd hn
theorem doK_det {q : Bool} {o : Oper} {env : List AV} {H : Heap} {R : Type} {K : AV → Heap → Option R} {out : R} (h : doK C (@call R) q o env H K = some out) : ∃ v H', K v H' = some out ∧ ∀ {R' : Type} (K' : AV → Heap → Option R'), doK C (@call R') q o env H K' = K' v H' := by
  have gen : ∀ {R : Type} {K : AV → Heap → Option R} {out : R}, (match opQ C env H H.length o with
      | some (b, v, sl) => match b with | true => K v (H ++ sl) | false => none
      | none => if q then none else match opE C env H o with
        | some (b, v, H') => match b with | true => K v H' | false => none
        | none => none) = some out → ∃ v H', K v H' = some out ∧ ∀ {R' : Type} (K' : AV → Heap → Option R'), (match opQ C env H H.length o with
      | some (b, v, sl) => match b with | true => K' v (H ++ sl) | false => none
      | none => if q then none else match opE C env H o with
        | some (b, v, H') => match b with | true => K' v H' | false => none
        | none => none) = K' v H' := fun {R K out} h => by
    cases hq : opQ C env H H.length o with
    | some p =>
      rw [hq] at h
      obtain ⟨b, v, sl⟩ := p
      cases b with
      | false => simp at h
      | true => exact ⟨v, _, h, fun K' => rfl⟩
    | none =>
      rw [hq] at h
      cases q with
      | true => simp at h
      | false =>
        simp only [Bool.false_eq_true, if_false] at h ⊢
        cases he : opE C env H o with
        | some p =>
          rw [he] at h
          obtain ⟨b, v, H'⟩ := p
          cases b with
          | false => simp at h
          | true => exact ⟨v, _, h, fun K' => rfl⟩
        | none => rw [he] at h; simp at h
  unfold doK at h ⊢
  cases ho : o.op
  case pick c x y =>
    simp only [ho] at h ⊢
    cases h1 : oprC env c with
    | none => rw [h1] at h; simp at h
    | some t =>
      rw [h1] at h
      cases t with
      | bool t =>
        cases t with
        | true =>
          simp only [] at h
          cases hv : opr env x with
          | none => rw [hv] at h; simp at h
          | some v => rw [hv] at h; exact ⟨v, H, h, fun K' => rfl⟩
        | false =>
          simp only [] at h
          cases hv : opr env y with
          | none => rw [hv] at h; simp at h
          | some v => rw [hv] at h; exact ⟨v, H, h, fun K' => rfl⟩
      | _ => simp at h
  case next x s =>
    simp only [ho, hn] at h
    simp at h
  case binOp op t x y r =>
    simp only [ho, hn] at h ⊢
    exact gen h
  case call c =>
    simp only [ho] at h ⊢
    cases hcal : c.callee with
    | value f =>
      simp only [hcal] at h ⊢
      cases h1 : callee env f with
      | none => rw [h1] at h; simp at h
      | some p =>
        obtain ⟨g, pa, pb⟩ := p
        rw [h1] at h
        simp only [] at h ⊢
        cases h0 : lentOf C env g c pa pb with
        | none => rw [h0] at h; simp at h
        | some l =>
          cases l with
          | nil =>
            rw [h0] at h
            simp only [] at h ⊢
            cases h2 : argsOf C env H c pa pb with
            | none => rw [h2] at h; simp at h
            | some p =>
              obtain ⟨vs, hs⟩ := p
              rw [h2] at h
              simp only [] at h ⊢
              obtain ⟨r, h3, hall⟩ := hd _ _ _ _ h
              split at h3
              · simp at h3
              · rename_i H1 h4
                exact ⟨_, _, h3, fun K' => (hall _).trans (by simp only [h4])⟩
          | cons l0 ls =>
            rw [h0] at h
            cases q with
            | true => simp at h
            | false =>
              simp only [] at h ⊢
              cases h2 : packOf C env H c pa pb (l0 :: ls) with
              | none => rw [h2] at h; simp at h
              | some p =>
                obtain ⟨pk, hs, ord⟩ := p
                rw [h2] at h
                simp only [] at h ⊢
                obtain ⟨r, h3, hall⟩ := hd _ _ _ _ h
                split at h3
                · simp at h3
                · rename_i r' H1 h4
                  exact ⟨_, _, h3, fun K' => (hall _).trans (by simp only [h4])⟩
    | invoke r m => simp only [hcal] at h ⊢; exact gen h
    | builtin b => simp only [hcal] at h ⊢; exact gen h
  all_goals (simp only [ho] at h ⊢; exact gen h)
theorem opsK_det {ops : Array Oper} : ∀ (l : List Oper) (q : Nat) (lt : List Bool) (st : St) {R : Type} (K : St → Option R) (out : R), opsK C (@call R) ops q lt l st K = some out → ∃ st', K st' = some out ∧ ∀ {R' : Type} (K' : St → Option R'), opsK C (@call R') ops q lt l st K' = K' st'
  | [], q, lt, st, R, K, out, h => ⟨st, h, fun K' => rfl⟩
  | o :: rest, q, lt, st, R, K, out, h => by
    simp only [opsK] at h ⊢
    have go : ∀ {env : List AV} {H : Heap} {b : Bool}, doK C (@call R) b o env H (fun v H => opsK C (@call R) ops (q - 1) lt.tail rest ⟨put env o.dst v, H, st.roots⟩ K) = some out → ∃ st', K st' = some out ∧ ∀ {R' : Type} (K' : St → Option R'), doK C (@call R') b o env H (fun v H => opsK C (@call R') ops (q - 1) lt.tail rest ⟨put env o.dst v, H, st.roots⟩ K') = K' st' := fun {env H b} h => by
      obtain ⟨v, H', h1, a1⟩ := doK_det hd hn h
      obtain ⟨st', h2, a2⟩ := opsK_det rest _ _ _ K out h1
      exact ⟨st', h2, fun K' => by rw [a1, a2]⟩
    have sk : ∀ {env : List AV} {H : Heap}, opsK C (@call R) ops (q - 1) lt.tail rest ⟨put env o.dst (.tup []), H, st.roots⟩ K = some out → ∃ st', K st' = some out ∧ ∀ {R' : Type} (K' : St → Option R'), opsK C (@call R') ops (q - 1) lt.tail rest ⟨put env o.dst (.tup []), H, st.roots⟩ K' = K' st' := fun {env H} h => opsK_det rest _ _ _ K out h
    cases hlt : lt.headD false with
    | true =>
      simp only [hlt] at h ⊢
      cases hg : o.guard with
      | some p => rw [hg] at h; simp at h
      | none =>
        simp only [hg] at h ⊢
        cases hq : opQ C st.env [] 0 o with
        | none => rw [hq] at h; simp at h
        | some p =>
          obtain ⟨b, v, sl⟩ := p
          cases sl with
          | cons x y => rw [hq] at h; simp at h
          | nil =>
            simp only [hq] at h ⊢
            cases b with
            | false => simp at h
            | true => exact opsK_det rest _ _ _ K out h
    | false =>
    simp only [hlt] at h ⊢
    split at h
    · rename_i hg
      try simp only [hg]
      exact go h
    · rename_i j want hg
      try simp only [hg]
      split at h
      · simp at h
      · rename_i d hdst
        try simp only [hdst]
        split at h
        case h_3 => simp at h
        case h_2 =>
          rename_i hb
          try simp only [hb]
          exact sk h
        rename_i b hb
        try simp only [hb]
        cases b <;> cases want <;> simp only [] at h ⊢
        · exact go h
        · exact sk h
        · exact sk h
        · exact go h
theorem loopK_det {B : ∀ {R : Type}, St → (Ex → St → Option R) → Option R} (hB : ∀ (st : St) {R : Type} (K : Ex → St → Option R) (out : R), B st K = some out → ∃ e st', K e st' = some out ∧ ∀ {R' : Type} (K' : Ex → St → Option R'), B st K' = K' e st') {l : LH} :
    ∀ (m : Nat) (st : St) {R : Type} (K : Ex → St → Option R) (out : R), loopK B l K m st = some out → ∃ e st', K e st' = some out ∧ ∀ {R' : Type} (K' : Ex → St → Option R'), loopK B l K' m st = K' e st'
  | 0, st, R, K, out, h => by simp [loopK] at h
  | m + 1, st, R, K, out, h => by
    simp only [loopK] at h ⊢
    obtain ⟨e, st', h1, a1⟩ := hB st _ _ h
    cases e with
    | normal =>
      simp only [] at h1
      split at h1
      · rename_i s hs
        obtain ⟨e2, st2, h2, a2⟩ := loopK_det hB m s K out h1
        exact ⟨e2, st2, h2, fun K' => by rw [a1]; simp only []; rw [hs]; exact a2 K'⟩
      · simp at h1
    | exit id =>
      simp only [] at h1
      split at h1
      · rename_i s hs
        exact ⟨.exit id, s, h1, fun K' => by rw [a1]; simp only []; rw [hs]⟩
      · simp at h1
    | ret =>
      simp only [] at h1
      split at h1
      · rename_i s hs
        exact ⟨.ret, s, h1, fun K' => by rw [a1]; simp only []; rw [hs]⟩
      · simp at h1
theorem aCode_det {fid : FuncId} {k : Nat} : ∀ (c : Code) (id : Nat) (st : St) {R : Type} (K : Ex → St → Option R) (out : R), aCode C fid (@call R) k c id st K = some out → ∃ e st', K e st' = some out ∧ ∀ {R' : Type} (K' : Ex → St → Option R'), aCode C fid (@call R') k c id st K' = K' e st' := by
  intro c
  induction c with
  | skip => intro id st R K out h; exact ⟨_, _, h, fun K' => rfl⟩
  | region i ops draw =>
    intro id st R K out h
    simp only [aCode] at h ⊢
    split at h
    · rename_i q lt hq
      obtain ⟨st', h1, a1⟩ := opsK_det hd hn _ _ _ _ _ _ h
      exact ⟨.normal, st', h1, fun K' => a1 (K' .normal)⟩
    · simp at h
  | seq a b iha ihb =>
    intro id st R K out h
    simp only [aCode] at h ⊢
    obtain ⟨e, st', h1, a1⟩ := iha _ _ _ _ h
    cases e with
    | normal =>
      obtain ⟨e2, st2, h2, a2⟩ := ihb _ _ _ _ h1
      exact ⟨e2, st2, h2, fun K' => by rw [a1]; exact a2 K'⟩
    | exit id => exact ⟨_, _, h1, fun K' => by rw [a1]⟩
    | ret => exact ⟨_, _, h1, fun K' => by rw [a1]⟩
  | cond c a b iha ihb =>
    intro id st R K out h
    simp only [aCode] at h ⊢
    split at h
    · split at h
      · rename_i t ht
        cases t with
        | true =>
          obtain ⟨e2, st2, h2, a2⟩ := iha _ _ _ _ h
          exact ⟨e2, st2, h2, fun K' => by simp only [ht]; exact a2 K'⟩
        | false =>
          obtain ⟨e2, st2, h2, a2⟩ := ihb _ _ _ _ h
          exact ⟨e2, st2, h2, fun K' => by simp only [ht]; exact a2 K'⟩
      · simp at h
    · rename_i t
      cases t with
      | true => exact iha _ _ _ _ h
      | false => exact ihb _ _ _ _ h
    · simp at h
  | block i c ih =>
    intro id st R K out h
    simp only [aCode] at h ⊢
    obtain ⟨e, st', h1, a1⟩ := ih _ _ _ _ h
    cases e with
    | normal => exact ⟨_, _, h1, fun K' => by rw [a1]⟩
    | ret => exact ⟨_, _, h1, fun K' => by rw [a1]⟩
    | exit j =>
      simp only [] at h1
      split at h1
      · rename_i hj; exact ⟨_, _, h1, fun K' => by rw [a1]; simp only [hj, if_true]⟩
      · rename_i hj; exact ⟨_, _, h1, fun K' => by rw [a1]; simp only [hj, if_false]⟩
  | loop c ih =>
    intro id st R K out h
    simp only [aCode] at h ⊢
    split at h
    · rename_i s hs
      obtain ⟨e, st', h1, a1⟩ := loopK_det hd hn (B := fun {R} st K => aCode C fid (@call R) k c id st K) (fun st {R} K out h => ih _ _ _ _ h) _ _ _ _ h
      exact ⟨e, st', h1, fun K' => a1 K'⟩
    · simp at h
  | exit i => intro id st R K out h; exact ⟨_, _, h, fun K' => rfl⟩
  | ret => intro id st R K out h; exact ⟨_, _, h, fun K' => rfl⟩
  | _ => intro id st R K out h; simp [aCode] at h
theorem aFun_det {fid : FuncId} {fn : Func} {k : Nat} {args : Pack} {R : Type} {K : AV → Option R} {out : R} (h : aFun C fid fn (@call R) k args K = some out) : ∃ r, K r = some out ∧ ∀ {R' : Type} (K' : AV → Option R'), aFun C fid fn (@call R') k args K' = K' r := by
  unfold aFun at h ⊢
  split at h
  · simp at h
  · rename_i c hb
    obtain ⟨e, st', h1, a1⟩ := aCode_det hd hn _ _ _ _ _ h
    cases e with
    | exit id => simp at h1
    | normal =>
      simp only [] at h1
      split at h1
      · rename_i r hr; exact ⟨r, h1, fun K' => by rw [a1]; simp only [hr]⟩
      · simp at h1
    | ret =>
      simp only [] at h1
      split at h1
      · rename_i r hr; exact ⟨r, h1, fun K' => by rw [a1]; simp only [hr]⟩
      · simp at h1
end
theorem aCallK_det (P : Program) (C : Ctx) (hn : C.nxt = false) (pr : Prims) : ∀ k, DetC (fun {R} g vs K => aCallK P C pr k (R := R) g vs K)
  | 0 => fun g vs R K out h => by simp [aCallK] at h
  | k + 1 => fun g vs R K out h => by
    simp only [aCallK] at h ⊢
    split at h
    · rename_i gf hg
      split at h
      · rename_i r hr; exact ⟨r, h, fun K' => rfl⟩
      · simp at h
    · rename_i hg
      split at h
      · simp at h
      · rename_i fn hf
        split at h
        · exact aFun_det (aCallK_det P C hn pr k) hn h
        · rename_i nf hnf
          split at h
          · rename_i r hr
            split at h
            · rename_i r' hr'; exact ⟨r', h, fun K' => rfl⟩
            · simp at h
          · simp at h
end Go.Proofs.Ytanpdkllnmeenaa.Am

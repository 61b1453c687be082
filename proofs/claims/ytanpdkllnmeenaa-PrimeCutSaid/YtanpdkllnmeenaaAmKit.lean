/- The tools: loops and calls by tables, shapes of what is handed over. -/
import Derived.Test.YtanpdkllnmeenaaAmTop
import Derived.KernelRfl
namespace Go.Proofs.Ytanpdkllnmeenaa.Am
open Go Go.RowKit
set_option linter.unusedVariables false
set_option linter.unusedSectionVars false
set_option linter.unusedSimpArgs false
def look {α : Type} : List (Nat × α) → Nat → Option α
  | [], _ => none
  | (k, v) :: r, t => match Nat.beq k t with | true => some v | false => look r t
/-! ### Loops -/
def loopN {A X : Type} (z : X) (Φ : (A → X) → A → X) : Nat → A → X
  | 0, _ => z
  | k + 1, a => Φ (loopN z Φ k) a
def loopsOf : Code → Nat → List (Nat × Code)
  | .seq a b, id => loopsOf a id ++ loopsOf b id
  | .cond _ a b, id => loopsOf a id ++ loopsOf b id
  | .block i c, _ => loopsOf c i
  | .loop c, id => [(id, c)]
  | _, _ => []
/-- All loops, those inside of others, too. -/
def allLoops : Code → Nat → List (Nat × Code)
  | .seq a b, id => allLoops a id ++ allLoops b id
  | .cond _ a b, id => allLoops a id ++ allLoops b id
  | .block i c, _ => allLoops c i
  | .loop c, id => (id, c) :: allLoops c id
  | _, _ => []
/-- A function's loop. -/
def lc (fn : Func) (id : Nat) : Code := match fn.body with | some c => (look (allLoops c 0) id).getD .skip | none => .skip
section
variable {R : Type} {C : Ctx} {fid : FuncId} {call : CallK R} {k : Nat}
theorem aCodeH_eq (hook : Nat → St → (Ex → St → Option R) → Option R) : ∀ (c : Code) (id : Nat), (∀ p ∈ loopsOf c id, ∀ st K, hook p.1 st K = aCode C fid call k (.loop p.2) p.1 st K) → ∀ st K, aCodeH C call hook c id st K = aCode C fid call k c id st K := by
  intro c
  induction c with
  | seq a b iha ihb =>
    intro id h st K
    simp only [aCodeH, aCode]
    rw [iha id (fun p hp => h p (by simp [loopsOf, hp]))]
    congr 1
    funext e st'
    cases e with
    | normal => exact ihb id (fun p hp => h p (by simp [loopsOf, hp])) st' K
    | exit j => rfl
    | ret => rfl
  | cond c a b iha ihb =>
    intro id h st K
    simp only [aCodeH, aCode]
    cases c with
    | tmp d =>
      simp only []
      cases he : envAt st.env d with
      | one c =>
        cases c with
        | bool t =>
          cases t with
          | true => exact iha id (fun p hp => h p (by simp [loopsOf, hp])) _ K
          | false => exact ihb id (fun p hp => h p (by simp [loopsOf, hp])) _ K
        | _ => rfl
      | _ => rfl
    | const v =>
      cases v with
      | bool t =>
        cases t with
        | true => exact iha id (fun p hp => h p (by simp [loopsOf, hp])) _ K
        | false => exact ihb id (fun p hp => h p (by simp [loopsOf, hp])) _ K
      | _ => rfl
    | _ => rfl
  | block i c ih =>
    intro id h st K
    simp only [aCodeH, aCode]
    exact ih i (fun p hp => h p (by simpa [loopsOf] using hp)) st _
  | loop c _ => intro id h st K; exact h (id, c) (by simp [loopsOf]) st K
  | _ => intro id h st K; rfl
/-- A loop by its step. -/
def hookG (body : St → (Ex → St → Option R) → Option R) (l : LH) (k : Nat) {A : Type} (dec : St → Option A) (Φ : (Ex → St → Option R) → (A → Option R) → A → Option R) (st : St) (K : Ex → St → Option R) : Option R :=
  match prep l.zhead l.head st with
  | none => none
  | some s => match dec s with
    | some a => loopN none (Φ K) k a
    | none => loopK body l K k s
theorem loopN_eq {body : St → (Ex → St → Option R) → Option R} {l : LH} {A : Type} {mk : A → St} {Φ : (Ex → St → Option R) → (A → Option R) → A → Option R} (K : Ex → St → Option R)
    (h : ∀ (m : Nat) (a : A), loopK body l K (m + 1) (mk a) = Φ K (fun a => loopK body l K m (mk a)) a) : ∀ m a, loopK body l K m (mk a) = loopN none (Φ K) m a
  | 0, a => rfl
  | m + 1, a => by
    rw [h, loopN]
    congr 1
    funext a
    exact loopN_eq K h m a
theorem hook_eq {c : Code} {id : Nat} {A : Type} {dec : St → Option A} {mk : A → St} {Φ : (Ex → St → Option R) → (A → Option R) → A → Option R} (hdec : ∀ s a, dec s = some a → s = mk a)
    (h : ∀ (K : Ex → St → Option R) (m : Nat) (a : A), loopK (fun st K => aCode C fid call k c id st K) (C.hint fid id) K (m + 1) (mk a) = Φ K (fun a => loopK (fun st K => aCode C fid call k c id st K) (C.hint fid id) K m (mk a)) a) (st : St) (K : Ex → St → Option R) :
    hookG (fun st K => aCode C fid call k c id st K) (C.hint fid id) k dec Φ st K = aCode C fid call k (.loop c) id st K := by
  simp only [hookG, aCode]
  cases prep (C.hint fid id).zhead (C.hint fid id).head st with
  | none => rfl
  | some s =>
    simp only []
    cases hd : dec s with
    | none => rfl
    | some a =>
      simp only []
      rw [hdec s a hd]
      exact (loopN_eq K (h K) k a).symm
def hookL (body : St → (Ex → St → Option R) → Option R) (l : LH) (k : Nat) {A : Type} (dec : St → Option A) (L : (Ex → St → Option R) → Nat → A → Option R) (st : St) (K : Ex → St → Option R) : Option R :=
  match prep l.zhead l.head st with
  | none => none
  | some s => match dec s with
    | some a => L K k a
    | none => loopK body l K k s
theorem hookL_eq {c : Code} {id : Nat} {A : Type} {dec : St → Option A} {mk : A → St} {L : (Ex → St → Option R) → Nat → A → Option R} (hdec : ∀ s a, dec s = some a → s = mk a) {Φ : (Ex → St → Option R) → (A → Option R) → A → Option R}
    (h0 : ∀ (K : Ex → St → Option R) (a : A), L K 0 a = none) (h1 : ∀ (K : Ex → St → Option R) (m : Nat) (a : A), L K (m + 1) a = Φ K (L K m) a)
    (h : ∀ (K : Ex → St → Option R) (m : Nat) (a : A), loopK (fun st K => aCode C fid call k c id st K) (C.hint fid id) K (m + 1) (mk a) = Φ K (fun a => loopK (fun st K => aCode C fid call k c id st K) (C.hint fid id) K m (mk a)) a) (st : St) (K : Ex → St → Option R) :
    hookL (fun st K => aCode C fid call k c id st K) (C.hint fid id) k dec L st K = aCode C fid call k (.loop c) id st K := by
  have key : ∀ m a, loopK (fun st K => aCode C fid call k c id st K) (C.hint fid id) K m (mk a) = L K m a := by
    intro m
    induction m with
    | zero => intro a; rw [h0]; rfl
    | succ m ih =>
      intro a
      rw [h, h1]
      congr 1
      funext a
      exact ih a
  simp only [hookL, aCode]
  cases prep (C.hint fid id).zhead (C.hint fid id).head st with
  | none => rfl
  | some s =>
    simp only []
    cases hd : dec s with
    | none => rfl
    | some a =>
      simp only []
      rw [hdec s a hd]
      exact (key k a).symm
def hookOf (l : List (Nat × (St → (Ex → St → Option R) → Option R))) (id : Nat) (st : St) (K : Ex → St → Option R) : Option R := match look l id with | some f => f st K | none => none
/-- The body of a loop, its own loops by the table. -/
theorem loop_step {c : Code} {id : Nat} (hook : Nat → St → (Ex → St → Option R) → Option R) (hh : ∀ p ∈ loopsOf c id, ∀ st K, hook p.1 st K = aCode C fid call k (.loop p.2) p.1 st K) {X : Option R} (K : Ex → St → Option R) (m : Nat) (s : St)
    (h : aCodeH C call hook c id s (fun e st' => match e with
      | .normal => match prep (C.hint fid id).zhead (C.hint fid id).head st' with | some s => loopK (fun st K => aCode C fid call k c id st K) (C.hint fid id) K m s | none => none
      | .exit j => match prep (C.hint fid id).zexit (C.hint fid id).exit st' with | some s => K (.exit j) s | none => none
      | .ret => match prep (C.hint fid id).zret (C.hint fid id).ret st' with | some s => K .ret s | none => none) = X) : loopK (fun st K => aCode C fid call k c id st K) (C.hint fid id) K (m + 1) s = X := by
  rw [← h, aCodeH_eq hook c id hh]
  rfl
/-- A function, its loops by the table. -/
theorem fun_step {fn : Func} {c : Code} (hb : fn.body = some c) (hook : Nat → St → (Ex → St → Option R) → Option R) (hh : ∀ p ∈ loopsOf c 0, ∀ st K, hook p.1 st K = aCode C fid call k (.loop p.2) p.1 st K) (args : Pack) (K : AV → Option R) {X : Option R}
    (h : aCodeH C call hook c 0 ⟨args.vs ++ List.replicate (fn.ntmps - args.vs.length) .undef, args.heap, args.roots⟩ (fun e st => match e with
      | .exit _ => none
      | _ => match resK C fid fn st with | some r => K r | none => none) = X) : aFun C fid fn call k args K = X := by
  rw [← h, aCodeH_eq hook c 0 hh]
  simp only [aFun, hb]
  rfl
end
def AllL {α : Type} (p : α → Prop) : List α → Prop
  | [] => True
  | a :: r => p a ∧ AllL p r
theorem allL {α : Type} {p : α → Prop} : ∀ {l l' : List α}, l = l' → AllL p l' → ∀ a ∈ l, p a
  | _, [], h, _ => by subst h; intro a ha; simp at ha
  | _, b :: r, h, h2 => by
    subst h
    intro a ha
    rcases List.mem_cons.1 ha with rfl | ha
    · exact h2.1
    · exact allL rfl h2.2 a ha
/-! ### Shapes -/
inductive PS where
  | val (t : Ty) | agg (t : Ty) | fptr (t : Ty) (off : Nat) | ptr (h off : Nat)
@[reducible] def PS.den : PS → Type
  | .val t => t.den | .agg t => t.den | .fptr t _ => t.den | .ptr .. => Unit
@[reducible] def HP : List PS → Type
  | [] => Unit | s :: r => s.den × HP r
def PS.enc : (s : PS) → s.den → PV
  | .val t, x => .val t x | .agg t, x => .agg t x | .fptr t off, x => .fptr t x off | .ptr h off, _ => .ptr h 0 off
def PS.dec : (s : PS) → PV → Option s.den
  | .val t, .val t' x => if h : t' = t then some (h ▸ x) else none
  | .agg t, .agg t' x => if h : t' = t then some (h ▸ x) else none
  | .fptr t off, .fptr t' x off' => if h : t' = t then if off' = off then some (h ▸ x) else none else none
  | .ptr h off, .ptr h' i off' => match Nat.beq h' h && (Nat.beq off' off && Nat.beq i 0) with | true => some () | false => none
  | _, _ => none
def encPs : (l : List PS) → HP l → List PV
  | [], _ => [] | s :: r, x => s.enc x.1 :: encPs r x.2
def decPs : (l : List PS) → List PV → Option (HP l)
  | [], [] => some () | s :: r, p :: q => (s.dec p).bind fun x => (decPs r q).map fun y => (x, y)
  | _, _ => none
theorem PS.dec_ok {s : PS} {p : PV} {x : s.den} (h : s.dec p = some x) : p = s.enc x := by
  cases s <;> cases p <;> simp only [PS.dec, reduceCtorEq] at h
  · split at h
    · rename_i e; subst e; injection h with h; subst h; rfl
    · simp at h
  · split at h
    · rename_i e; subst e; injection h with h; subst h; rfl
    · simp at h
  · split at h
    · rename_i e
      subst e
      split at h
      · rename_i e; subst e; injection h with h; subst h; rfl
      · simp at h
    · simp at h
  · split at h
    · rename_i e
      rw [Bool.and_eq_true, Bool.and_eq_true] at e
      rw [Nat.eq_of_beq_eq_true e.1, Nat.eq_of_beq_eq_true e.2.1, Nat.eq_of_beq_eq_true e.2.2]; rfl
    · simp at h
theorem decPs_ok : ∀ {l : List PS} {p : List PV} {x : HP l}, decPs l p = some x → p = encPs l x
  | [], [], _, _ => rfl
  | [], _ :: _, _, h => by simp [decPs] at h
  | _ :: _, [], _, h => by simp [decPs] at h
  | s :: r, p :: q, x, h => by
    simp only [decPs, Option.bind_eq_some_iff, Option.map_eq_some_iff] at h
    obtain ⟨a, h1, b, h2, rfl⟩ := h
    rw [PS.dec_ok h1, decPs_ok h2]; rfl
/-- The shape of a cell. -/
inductive CS where
  | undef | nils | int (k : IntKind) | bool | str | vsl (t : Ty) | own (e : TypeId) (t : Ty) | ref (h : Nat) | sub (h : Nat) | ptr (h off : Nat) | ptr0 (h off : Nat) | fptr (t : Ty) (off : Nat) | fn (f : FuncId) (a b : List PS)
@[reducible] def CS.den : CS → Type
  | .undef | .nils | .ref _ | .ptr0 .. => Unit | .int _ => Int | .bool => Bool | .str => ByteArray | .vsl t | .own _ t => List t.den | .sub _ => Nat × Nat | .ptr .. => Nat | .fptr t _ => t.den | .fn _ a b => HP a × HP b
def CS.enc : (s : CS) → s.den → CV
  | .undef, _ => .undef | .nils, _ => .nils | .int k, n => .int k n | .bool, b => .bool b | .str, s => .str s | .vsl t, xs => .vsl t xs | .own e t, xs => .own e t xs | .ref h, _ => .ref h
  | .sub h, p => .sub h p.1 p.2 | .ptr h off, i => .ptr h i off | .ptr0 h off, _ => .ptr h 0 off | .fptr t off, x => .fptr t x off | .fn f a b, p => .fn f (encPs a p.1) (encPs b p.2)
def CS.dec : (s : CS) → CV → Option s.den
  | .undef, .undef => some ()
  | .nils, .nils => some ()
  | .int k, .int k' n => if k' = k then some n else none
  | .bool, .bool b => some b
  | .str, .str s => some s
  | .vsl t, .vsl t' xs => if h : t' = t then some (h ▸ xs) else none
  | .own e t, .own e' t' xs => if e' = e then if h : t' = t then some (h ▸ xs) else none else none
  | .ref h, .ref h' => match Nat.beq h' h with | true => some () | false => none
  | .sub h, .sub h' o l => match Nat.beq h' h with | true => some (o, l) | false => none
  | .ptr h off, .ptr h' i off' => match Nat.beq h' h && Nat.beq off' off with | true => some i | false => none
  | .ptr0 h off, .ptr h' i off' => match Nat.beq h' h && (Nat.beq off' off && Nat.beq i 0) with | true => some () | false => none
  | .fptr t off, .fptr t' x off' => if h : t' = t then match Nat.beq off' off with | true => some (h ▸ x) | false => none else none
  | .fn f a b, .fn f' a' b' => match Nat.beq f' f with | true => (decPs a a').bind fun x => (decPs b b').map fun y => (x, y) | false => none
  | _, _ => none
theorem CS.dec_ok {s : CS} {c : CV} {x : s.den} (h : s.dec c = some x) : c = s.enc x := by
  cases s <;> cases c <;> simp only [CS.dec, reduceCtorEq] at h
  · rfl
  · rfl
  · split at h
    · rename_i e; subst e; injection h with h; subst h; rfl
    · simp at h
  · injection h with h; subst h; rfl
  · injection h with h; subst h; rfl
  · split at h
    · rename_i e; subst e; injection h with h; subst h; rfl
    · simp at h
  · split at h
    · rename_i e
      subst e
      split at h
      · rename_i e; subst e; injection h with h; subst h; rfl
      · simp at h
    · simp at h
  · split at h
    · rename_i e; rw [Nat.eq_of_beq_eq_true e]; rfl
    · simp at h
  · split at h
    · rename_i e; rw [Nat.eq_of_beq_eq_true e]; injection h with h; subst h; rfl
    · simp at h
  · split at h
    · rename_i e
      rw [Bool.and_eq_true] at e
      rw [Nat.eq_of_beq_eq_true e.1, Nat.eq_of_beq_eq_true e.2]; injection h with h; subst h; rfl
    · simp at h
  · split at h
    · rename_i e
      rw [Bool.and_eq_true, Bool.and_eq_true] at e
      rw [Nat.eq_of_beq_eq_true e.1, Nat.eq_of_beq_eq_true e.2.1, Nat.eq_of_beq_eq_true e.2.2]; rfl
    · simp at h
  · split at h
    · rename_i e
      subst e
      split at h
      · rename_i e; rw [Nat.eq_of_beq_eq_true e]; injection h with h; subst h; rfl
      · simp at h
    · simp at h
  · split at h
    · rename_i e
      rw [Nat.eq_of_beq_eq_true e]
      simp only [Option.bind_eq_some_iff, Option.map_eq_some_iff] at h
      obtain ⟨a, h1, b, h2, rfl⟩ := h
      rw [decPs_ok h1, decPs_ok h2]; rfl
    · simp at h
@[reducible] def HC : List CS → Type
  | [] => Unit | s :: r => s.den × HC r
def encCs : (l : List CS) → HC l → List CV
  | [], _ => [] | s :: r, x => s.enc x.1 :: encCs r x.2
def decCs : (l : List CS) → List CV → Option (HC l)
  | [], [] => some ()
  | s :: r, p :: q => (s.dec p).bind fun x => (decCs r q).map fun y => (x, y)
  | _, _ => none
theorem decCs_ok : ∀ {l : List CS} {p : List CV} {x : HC l}, decCs l p = some x → p = encCs l x
  | [], [], _, _ => rfl
  | [], _ :: _, _, h => by simp [decCs] at h
  | _ :: _, [], _, h => by simp [decCs] at h
  | s :: r, p :: q, x, h => by
    simp only [decCs, Option.bind_eq_some_iff, Option.map_eq_some_iff] at h
    obtain ⟨a, h1, b, h2, rfl⟩ := h
    rw [CS.dec_ok h1, decCs_ok h2]; rfl
/-- The shape of a value. -/
inductive VS where
  | undef | one (c : CS) | agg (cs : List CS) | tup (vs : List (Bool × List CS))
abbrev u : VS := .undef
@[reducible] def HT : List (Bool × List CS) → Type
  | [] => Unit | s :: r => HC s.2 × HT r
@[reducible] def VS.den : VS → Type
  | .undef => Unit | .one c => c.den | .agg cs => HC cs | .tup vs => HT vs
def encT : (l : List (Bool × List CS)) → HT l → List (Bool × List CV)
  | [], _ => [] | s :: r, x => (s.1, encCs s.2 x.1) :: encT r x.2
def VS.enc : (s : VS) → s.den → AV
  | .undef, _ => .undef | .one c, x => .one (c.enc x) | .agg cs, x => .agg (encCs cs x) | .tup vs, x => .tup (encT vs x)
def decT : (l : List (Bool × List CS)) → List (Bool × List CV) → Option (HT l)
  | [], [] => some ()
  | s :: r, p :: q => match p.1 == s.1 with | true => (decCs s.2 p.2).bind fun x => (decT r q).map fun y => (x, y) | false => none
  | _, _ => none
theorem decT_ok : ∀ {l : List (Bool × List CS)} {p : List (Bool × List CV)} {x : HT l}, decT l p = some x → p = encT l x
  | [], [], _, _ => rfl
  | [], _ :: _, _, h => by simp [decT] at h
  | _ :: _, [], _, h => by simp [decT] at h
  | s :: r, p :: q, x, h => by
    simp only [decT] at h
    split at h
    · rename_i e
      simp only [Option.bind_eq_some_iff, Option.map_eq_some_iff] at h
      obtain ⟨a, h1, b, h2, rfl⟩ := h
      have e1 : p.1 = s.1 := by simpa using e
      show p :: q = (s.1, encCs s.2 a) :: encT r b
      rw [← decT_ok h2, ← decCs_ok h1, ← e1]
    · simp at h
def VS.dec : (s : VS) → AV → Option s.den
  | .undef, .undef => some ()
  | .one s, .one c => s.dec c
  | .agg l, .agg cs => decCs l cs
  | .tup l, .tup vs => decT l vs
  | _, _ => none
theorem VS.dec_ok {s : VS} {c : AV} {x : s.den} (h : s.dec c = some x) : c = s.enc x := by
  cases s <;> cases c <;> simp only [VS.dec, reduceCtorEq] at h
  · rfl
  · rw [CS.dec_ok h]; rfl
  · rw [decCs_ok h]; rfl
  · rw [decT_ok h]; rfl
theorem PS.dec_enc (s : PS) (x : s.den) : s.dec (s.enc x) = some x := by
  cases s <;> simp [PS.enc, PS.dec]
theorem decPs_enc : ∀ (l : List PS) (x : HP l), decPs l (encPs l x) = some x
  | [], _ => rfl
  | s :: r, x => by simp [encPs, decPs, PS.dec_enc, decPs_enc r]
theorem CS.dec_enc (s : CS) (x : s.den) : s.dec (s.enc x) = some x := by
  cases s <;> simp [CS.enc, CS.dec, decPs_enc]
theorem decCs_enc : ∀ (l : List CS) (x : HC l), decCs l (encCs l x) = some x
  | [], _ => rfl
  | s :: r, x => by simp [encCs, decCs, CS.dec_enc, decCs_enc r]
theorem decT_enc : ∀ (l : List (Bool × List CS)) (x : HT l), decT l (encT l x) = some x
  | [], _ => rfl
  | s :: r, x => by simp [encT, decT, decCs_enc, decT_enc r]
theorem VS.dec_enc (s : VS) (x : s.den) : s.dec (s.enc x) = some x := by
  cases s <;> simp [VS.enc, VS.dec, CS.dec_enc, decCs_enc, decT_enc]
@[reducible] def HV : List VS → Type
  | [] => Unit | s :: r => s.den × HV r
def encVs : (l : List VS) → HV l → List AV
  | [], _ => [] | s :: r, x => s.enc x.1 :: encVs r x.2
def decVs : (l : List VS) → List AV → Option (HV l)
  | [], [] => some ()
  | s :: r, p :: q => (s.dec p).bind fun x => (decVs r q).map fun y => (x, y)
  | _, _ => none
theorem decVs_ok : ∀ {l : List VS} {p : List AV} {x : HV l}, decVs l p = some x → p = encVs l x
  | [], [], _, _ => rfl
  | [], _ :: _, _, h => by simp [decVs] at h
  | _ :: _, [], _, h => by simp [decVs] at h
  | s :: r, p :: q, x, h => by
    simp only [decVs, Option.bind_eq_some_iff, Option.map_eq_some_iff] at h
    obtain ⟨a, h1, b, h2, rfl⟩ := h
    rw [VS.dec_ok h1, decVs_ok h2]; rfl
/-- The shape of a slot. -/
inductive SS where
  | dead | row (live : Bool) (e : TypeId) (t : Ty) | box (t : Ty) (cs : List CS) | iter (k : IntKind) (v : Ty)
@[reducible] def SS.den : SS → Type
  | .dead => Unit | .row _ _ t => List t.den | .box _ cs => HC cs | .iter _ v => List (Unit × Int × v.den) × List Nat
def SS.enc : (s : SS) → s.den → Slot
  | .dead, _ => .dead | .row l e t, xs => .row l e t xs | .box t cs, x => .box t (encCs cs x) | .iter k v, x => .iter k v x.1 x.2
def SS.dec : (s : SS) → Slot → Option s.den
  | .dead, .dead => some ()
  | .row l e t, .row l' e' t' xs => if l' = l then match Nat.beq e' e with | true => if h : t' = t then some (h ▸ xs) else none | false => none else none
  | .box t cs, .box t' us => if t' = t then decCs cs us else none
  | .iter k v, .iter k' v' es seen => if k' = k then (if h : v' = v then some (h ▸ es, seen) else none) else none
  | _, _ => none
theorem SS.dec_ok {s : SS} {c : Slot} {x : s.den} (h : s.dec c = some x) : c = s.enc x := by
  cases s <;> cases c <;> simp only [SS.dec, reduceCtorEq] at h
  · rfl
  · split at h
    · rename_i e
      subst e
      split at h
      · rename_i e
        rw [Nat.eq_of_beq_eq_true e]
        split at h
        · rename_i e; subst e; injection h with h; subst h; rfl
        · simp at h
      · simp at h
    · simp at h
  · split at h
    · rename_i e; subst e; rw [decCs_ok h]; rfl
    · simp at h
  · split at h
    · rename_i e
      subst e
      split at h
      · rename_i e; subst e; injection h with h; subst h; rfl
      · simp at h
    · simp at h
@[reducible] def HS : List SS → Type
  | [] => Unit | s :: r => s.den × HS r
def encSs : (l : List SS) → HS l → List Slot
  | [], _ => [] | s :: r, x => s.enc x.1 :: encSs r x.2
def decSs : (l : List SS) → List Slot → Option (HS l)
  | [], [] => some ()
  | s :: r, p :: q => (s.dec p).bind fun x => (decSs r q).map fun y => (x, y)
  | _, _ => none
theorem decSs_ok : ∀ {l : List SS} {p : List Slot} {x : HS l}, decSs l p = some x → p = encSs l x
  | [], [], _, _ => rfl
  | [], _ :: _, _, h => by simp [decSs] at h
  | _ :: _, [], _, h => by simp [decSs] at h
  | s :: r, p :: q, x, h => by
    simp only [decSs, Option.bind_eq_some_iff, Option.map_eq_some_iff] at h
    obtain ⟨a, h1, b, h2, rfl⟩ := h
    rw [SS.dec_ok h1, decSs_ok h2]; rfl
/-- The shape of a state. -/
structure Sh where
  env : List VS
  heap : List SS
  roots : List CV
def eqRoots : List CV → List CV → Bool
  | [], [] => true
  | .ref h :: r, .ref h' :: r' => match Nat.beq h h' with | true => eqRoots r r' | false => false
  | .ptr h i o :: r, .ptr h' i' o' :: r' => match Nat.beq h h' && (Nat.beq i i' && Nat.beq o o') with | true => eqRoots r r' | false => false
  | _, _ => false
theorem eqRoots_ok : ∀ {l m : List CV}, eqRoots l m = true → l = m
  | [], [], _ => rfl
  | c :: r, d :: r', h => by
    cases c <;> cases d <;> simp only [eqRoots, reduceCtorEq, Bool.false_eq_true] at h
    · split at h
      · rename_i e; rw [Nat.eq_of_beq_eq_true e, eqRoots_ok h]
      · simp at h
    · split at h
      · rename_i e
        rw [Bool.and_eq_true, Bool.and_eq_true] at e
        rw [Nat.eq_of_beq_eq_true e.1, Nat.eq_of_beq_eq_true e.2.1, Nat.eq_of_beq_eq_true e.2.2, eqRoots_ok h]
      · simp at h
  | [], _ :: _, h => by simp [eqRoots] at h
  | c :: _, [], h => by cases c <;> simp [eqRoots] at h
@[reducible] def Sh.den (s : Sh) : Type := HV s.env × HS s.heap
def Sh.enc (s : Sh) (x : s.den) : St := ⟨encVs s.env x.1, encSs s.heap x.2, s.roots⟩
def Sh.dec (s : Sh) (st : St) : Option s.den := match eqRoots st.roots s.roots with | true => (decVs s.env st.env).bind fun x => (decSs s.heap st.heap).map fun y => (x, y) | false => none
theorem Sh.dec_ok {s : Sh} (st : St) (x : s.den) (h : s.dec st = some x) : st = s.enc x := by
  unfold Sh.dec at h
  split at h
  · rename_i hr
    simp only [Option.bind_eq_some_iff, Option.map_eq_some_iff] at h
    obtain ⟨a, h1, b, h2, rfl⟩ := h
    have := eqRoots_ok hr
    cases st
    simp only at h1 h2 this
    rw [decVs_ok h1, decSs_ok h2, this]; rfl
  · simp at h
/-! ### What a function is handed -/
/-- The shape of an argument. -/
inductive AS where
  | ty (t : Ty) | fptr (t : Ty) (off : Nat) | fn (f : FuncId) (a b : List PS) | cel (c : CS)
@[reducible] def AS.den : AS → Type
  | .ty t => t.den | .fptr t _ => t.den | .fn _ a b => HP a × HP b | .cel c => c.den
def AS.enc : (s : AS) → s.den → AV
  | .ty t, x => if t.isAgg then .agg (flat t x) else match flat t x with | [c] => .one c | _ => .undef
  | .fptr t off, x => .one (.fptr t x off)
  | .fn f a b, p => .one (.fn f (encPs a p.1) (encPs b p.2))
  | .cel s, x => .one (s.enc x)
def AS.dec : (s : AS) → AV → Option s.den
  | .ty t, v => match v with
    | .one c => match t.isAgg with | true => none | false => unflat1 t [c]
    | .agg cs => match t.isAgg with | true => unflat1 t cs | false => none
    | _ => none
  | .fptr t off, .one c => (CS.fptr t off).dec c
  | .fn f a b, .one c => (CS.fn f a b).dec c
  | .cel s, .one c => s.dec c
  | _, _ => none
theorem unflat_flat : ∀ {t : Ty} {cs : List CV} {x : t.den} {r : List CV}, unflat t cs = some (x, r) → cs = flat t x ++ r
  | .int k, cs, x, r, h => by
    cases cs with
    | nil => simp [unflat] at h
    | cons c cs => cases c <;> simp [unflat] at h; obtain ⟨rfl, rfl, rfl⟩ := h; rfl
  | .bool, cs, x, r, h => by
    cases cs with
    | nil => simp [unflat] at h
    | cons c cs => cases c <;> simp [unflat] at h; obtain ⟨rfl, rfl⟩ := h; rfl
  | .str, cs, x, r, h => by
    cases cs with
    | nil => simp [unflat] at h
    | cons c cs => cases c <;> simp [unflat] at h; obtain ⟨rfl, rfl⟩ := h; rfl
  | .sl t, cs, x, r, h => by
    cases cs with
    | nil => simp [unflat] at h
    | cons c cs =>
      cases c <;> simp only [unflat, reduceCtorEq] at h
      split at h
      · rename_i e; subst e; simp at h; obtain ⟨rfl, rfl⟩ := h; rfl
      · simp at h
  | .pair a b, cs, x, r, h => by
    simp only [unflat, Option.bind_eq_some_iff] at h
    obtain ⟨y, h1, z, h2, h3⟩ := h
    simp at h3
    obtain ⟨rfl, rfl⟩ := h3
    have e1 := unflat_flat (x := y.1) (r := y.2) h1
    have e2 := unflat_flat (x := z.1) (r := z.2) h2
    rw [e1, e2]
    simp [flat]
  | .unit, cs, x, r, h => by simp [unflat] at h; subst h; rfl
  | .opq, cs, x, r, h => by simp [unflat] at h
theorem unflat1_flat {t : Ty} {cs : List CV} {x : t.den} (h : unflat1 t cs = some x) : cs = flat t x := by
  simp only [unflat1, Option.bind_eq_some_iff] at h
  obtain ⟨p, h1, h2⟩ := h
  split at h2
  · rename_i hp
    injection h2 with h2
    subst h2
    have := unflat_flat (x := p.1) (r := p.2) h1
    rw [hp, List.append_nil] at this
    exact this
  · simp at h2
theorem AS.dec_ok {s : AS} {c : AV} {x : s.den} (h : s.dec c = some x) : c = s.enc x := by
  cases s with
  | ty t =>
    cases c with
    | one c =>
      simp only [AS.dec] at h
      split at h
      · simp at h
      · rename_i ha
        have := unflat1_flat h
        simp only [AS.enc, ha, Bool.false_eq_true, if_false]
        rw [← this]
    | agg cs =>
      simp only [AS.dec] at h
      split at h
      · rename_i ha
        have := unflat1_flat h
        simp only [AS.enc, ha, if_true]
        rw [← this]
      · simp at h
    | _ => simp [AS.dec] at h
  | fptr t off =>
    cases c <;> simp only [AS.dec, reduceCtorEq] at h
    rw [CS.dec_ok h]; rfl
  | fn f a b =>
    cases c <;> simp only [AS.dec, reduceCtorEq] at h
    rw [CS.dec_ok h]; rfl
  | cel s =>
    cases c <;> simp only [AS.dec, reduceCtorEq] at h
    rw [CS.dec_ok h]; rfl
@[reducible] def HA : List AS → Type
  | [] => Unit | s :: r => s.den × HA r
def encAs : (l : List AS) → HA l → List AV
  | [], _ => [] | s :: r, x => s.enc x.1 :: encAs r x.2
def decAs : (l : List AS) → List AV → Option (HA l)
  | [], [] => some ()
  | s :: r, p :: q => (s.dec p).bind fun x => (decAs r q).map fun y => (x, y)
  | _, _ => none
theorem decAs_ok : ∀ {l : List AS} {p : List AV} {x : HA l}, decAs l p = some x → p = encAs l x
  | [], [], _, _ => rfl
  | [], _ :: _, _, h => by simp [decAs] at h
  | _ :: _, [], _, h => by simp [decAs] at h
  | s :: r, p :: q, x, h => by
    simp only [decAs, Option.bind_eq_some_iff, Option.map_eq_some_iff] at h
    obtain ⟨a, h1, b, h2, rfl⟩ := h
    rw [AS.dec_ok h1, decAs_ok h2]; rfl
/-! ### Calls by a table -/
def encP (args : List AS) (heap : List SS) (roots : List CV) (a : HA args × HS heap) : Pack := ⟨encAs args a.1, encSs heap a.2, roots⟩
def decP (args : List AS) (heap : List SS) (roots : List CV) (p : Pack) : Option (HA args × HS heap) := match eqRoots p.roots roots with
  | true => (decAs args p.vs).bind fun x => (decSs heap p.heap).map fun y => (x, y)
  | false => none
theorem decP_ok {args : List AS} {heap : List SS} {roots : List CV} {p : Pack} {x : HA args × HS heap} (h : decP args heap roots p = some x) : p = encP args heap roots x := by
  unfold decP at h
  split at h
  · rename_i hr
    simp only [Option.bind_eq_some_iff, Option.map_eq_some_iff] at h
    obtain ⟨a, h1, b, h2, rfl⟩ := h
    have := eqRoots_ok hr
    cases p
    simp only at h1 h2 this
    rw [decAs_ok h1, decSs_ok h2, this]; rfl
  · simp at h
/-- A function that is told by lists and numbers. -/
structure Entry (P : Program) (C : Ctx) (pr : Prims) where
  id : FuncId
  args : List AS
  heap : List SS := []
  roots : List CV := []
  res : VS
  f : Nat → {R : Type} → HA args × HS heap → (res.den → Option R) → Option R
  ok : ∀ (k : Nat) {R : Type} (a : HA args × HS heap) (K : AV → Option R), aCallK P C pr k id (encP args heap roots a) K = f k a fun b => K (res.enc b)
section
variable {P : Program} {C : Ctx} {pr : Prims}
noncomputable def callT {R : Type} (k : Nat) : List (Entry P C pr) → CallK R
  | [], g, vs, K => aCallK P C pr k g vs K
  | e :: r, g, vs, K => match Nat.beq e.id g with
    | true => match decP e.args e.heap e.roots vs with
      | some a => e.f k a fun b => K (e.res.enc b)
      | none => callT k r g vs K
    | false => callT k r g vs K
theorem callT_eq {R : Type} (k : Nat) : ∀ (l : List (Entry P C pr)), (callT k l : CallK R) = fun g vs K => aCallK P C pr k g vs K
  | [] => rfl
  | e :: r => by
    funext g vs K
    simp only [callT]
    split
    · rename_i hg
      split
      · rename_i a ha
        rw [decP_ok ha, ← Nat.eq_of_beq_eq_true hg, e.ok]
      · rw [callT_eq k r]
    · rw [callT_eq k r]
/-- A function's entry. -/
theorem entry_ok {id : FuncId} {fn : Func} {args : List AS} {heap : List SS} {roots : List CV} {res : VS} {f : Nat → {R : Type} → HA args × HS heap → (res.den → Option R) → Option R} (hpr : pr id = none) (hf : P.funcs[id]? = some fn) (tbl : List (Entry P C pr)) (hnd : C.nd id = none)
    (h0 : ∀ {R : Type} (a : HA args × HS heap) (K : res.den → Option R), f 0 a K = none)
    (h : ∀ (k : Nat) {R : Type} (a : HA args × HS heap) (K : AV → Option R), aFun C id fn (callT k tbl) k (encP args heap roots a) K = f (k + 1) a fun b => K (res.enc b)) : ∀ (k : Nat) {R : Type} (a : HA args × HS heap) (K : AV → Option R), aCallK P C pr k id (encP args heap roots a) K = f k a fun b => K (res.enc b)
  | 0, R, a, K => (h0 a _).symm
  | k + 1, R, a, K => by
    rw [← h, callT_eq]
    simp only [aCallK, hpr, hf, hnd]
/-- A function that is not looked into. -/
theorem entry_cut {id : FuncId} {args : List AS} {heap : List SS} {roots : List CV} (hpr : pr id = some fun _ => none) : ∀ (k : Nat) {R : Type} (a : HA args × HS heap) (K : AV → Option R), aCallK P C pr k id (encP args heap roots a) K = none
  | 0, R, a, K => rfl
  | k + 1, R, a, K => by
    simp only [aCallK, hpr]
/-- A function that is told otherwise. -/
noncomputable def primK {α β : Type} (g : α → Option β) (k : Nat) {R : Type} (a : α) (K : β → Option R) : Option R := match k with
  | 0 => none
  | _ + 1 => match g a with | some b => K b | none => none
theorem entry_prim {id : FuncId} {args : List AS} {heap : List SS} {roots : List CV} {res : VS} {F : Pack → Option AV} {β : Type} {g : HA args × HS heap → Option β} (pack : β → res.den) (hpr : pr id = some F) (hg : ∀ a, F (encP args heap roots a) = (g a).map fun b => res.enc (pack b)) : ∀ (k : Nat) {R : Type} (a : HA args × HS heap) (K : AV → Option R), aCallK P C pr k id (encP args heap roots a) K = primK g k a fun b => K (res.enc (pack b))
  | 0, R, a, K => rfl
  | k + 1, R, a, K => by
    simp only [aCallK, hpr, hg, primK]
    cases g a <;> rfl
/-- A function that calls itself. -/
noncomputable def callS {R : Type} (k : Nat) (id : FuncId) (args : List AS) (heap : List SS) (roots : List CV) (res : VS) (f : Nat → {R : Type} → HA args × HS heap → (res.den → Option R) → Option R) (tbl : List (Entry P C pr)) : CallK R := fun g vs K => match Nat.beq id g with
  | true => match decP args heap roots vs with
    | some a => f k a fun b => K (res.enc b)
    | none => callT k tbl g vs K
  | false => callT k tbl g vs K
theorem entry_rec {id : FuncId} {fn : Func} {args : List AS} {heap : List SS} {roots : List CV} {res : VS} {f : Nat → {R : Type} → HA args × HS heap → (res.den → Option R) → Option R} (hpr : pr id = none) (hf : P.funcs[id]? = some fn) (tbl : List (Entry P C pr)) (hnd : C.nd id = none)
    (h0 : ∀ {R : Type} (a : HA args × HS heap) (K : res.den → Option R), f 0 a K = none)
    (h : ∀ (k : Nat) {R : Type} (a : HA args × HS heap) (K : AV → Option R), aFun C id fn (callS k id args heap roots res f tbl) k (encP args heap roots a) K = f (k + 1) a fun b => K (res.enc b)) : ∀ (k : Nat) {R : Type} (a : HA args × HS heap) (K : AV → Option R), aCallK P C pr k id (encP args heap roots a) K = f k a fun b => K (res.enc b)
  | 0, R, a, K => (h0 a _).symm
  | k + 1, R, a, K => by
    have e : ∀ {R : Type}, (callS k id args heap roots res f tbl : CallK R) = fun g vs K => aCallK P C pr k g vs K := by
      intro R
      funext g vs K
      simp only [callS]
      split
      · rename_i hg
        split
        · rename_i a ha
          rw [decP_ok ha, ← Nat.eq_of_beq_eq_true hg, entry_rec hpr hf tbl hnd h0 h k]
        · rw [callT_eq k tbl]
      · rw [callT_eq k tbl]
    rw [← h, e]
    simp only [aCallK, hpr, hf, hnd]
/-- A function in which the order of a map's keys is open: it must come to one result. -/
noncomputable def ndF (res : VS) (raw : (AV → Option AV) → Option AV) {R : Type} (K : res.den → Option R) : Option R := match raw some with
  | some r => match (res.dec r).map res.enc with
    | some _ => match res.dec r with | some b => K b | none => none
    | none => none
  | none => none
theorem nd_eq {res : VS} {b : res.den} {R : Type} (K : res.den → Option R) : ndF res (fun L => L (res.enc b)) K = K b := by
  simp only [ndF, VS.dec_enc, Option.map]
theorem entry_nd {id : FuncId} {fn : Func} {args : List AS} {heap : List SS} {roots : List CV} {res : VS} {raw : Nat → HA args × HS heap → (res.den → Option AV) → Option AV} (hpr : pr id = none) (hf : P.funcs[id]? = some fn) (tbl : List (Entry P C pr)) (hnd : C.nd id = some fun r => (res.dec r).map res.enc)
    (h0 : ∀ (a : HA args × HS heap) (K : res.den → Option AV), raw 0 a K = none)
    (h : ∀ (k : Nat) (a : HA args × HS heap) (K : AV → Option AV), aFun C.on id fn (callT k tbl) k (encP args heap roots a) K = raw (k + 1) a fun b => K (res.enc b)) : ∀ (k : Nat) {R : Type} (a : HA args × HS heap) (K : AV → Option R), aCallK P C pr k id (encP args heap roots a) K = ndF res (fun L => raw k a fun b => L (res.enc b)) fun b => K (res.enc b)
  | 0, R, a, K => by simp [aCallK, ndF, h0]
  | k + 1, R, a, K => by
    have e1 := h k a some
    rw [callT_eq] at e1
    simp only [aCallK, hpr, hf, hnd, ndF, e1]
    cases raw (k + 1) a fun b => some (res.enc b) with
    | none => rfl
    | some r =>
      simp only []
      cases hd : res.dec r with
      | none => rfl
      | some b => rfl
/-- What a table says is so. -/
theorem entry_call (e : Entry P C pr) (cx : CtxOk P C) (hn : C.nxt = false) (hg : ∀ (g : FuncId) (fn : Func), P.funcs[g]? = some fn → (fn.name == "runtime.NumGoroutine") = false) (hp : PrimsOk P pr) {k : Nat} {a : HA e.args × HS e.heap} {b : e.res.den} (h : ∀ {R : Type} (ret : e.res.den → Option R), e.f k a ret = ret b) : CallOK P e.id (encP e.args e.heap e.roots a) (e.res.enc b) := by
  have h1 : aCallK P C pr k e.id (encP e.args e.heap e.roots a) some = some (e.res.enc b) := by rw [e.ok, h]
  obtain ⟨r, h2, h3⟩ := call_all cx hn hg hp k e.id (encP e.args e.heap e.roots a) some _ h1
  injection h2 with h2
  rw [← h2]
  exact h3
end
end Go.Proofs.Ytanpdkllnmeenaa.Am

/- The machine's operations that change nothing that is there: what they do in a memory. -/
import Derived.Test.YtanpdkllnmeenaaAmRep
import Derived.Laws.Tables
import Derived.Laws.Entries
import Derived.Laws.Slices
import Derived.Great.BuildSlice
import Derived.ChangeKeysEq
import Derived.WalkKit
import Derived.Laws.Small
import Derived.Laws.StructEq
namespace Go.Proofs.Ytanpdkllnmeenaa.Am
open Go Go.RowKit
set_option linter.unusedVariables false
set_option linter.unusedSectionVars false

structure EOk (P : Program) (e : TypeId) (t : Ty) (i : TypeInfo) (z : Value) : Prop where
  info : P.info? e = some i
  size : i.size = t.size
  bytes : i.bytes ≤ 64
  zero : i.zero = some z
  zsize : z.cells.size = t.size
  rep : ∀ F w, RepC F w t t.dflt z.cells.toList
  pos : 0 < t.size
/-- What a map's type says. -/
structure MOk (P : Program) (kt vt : TypeId) (k : IntKind) (v : Ty) (i : TypeInfo) (z : Value) : Prop where
  key : P.underlying kt = some (.int k)
  info : P.info? vt = some i
  zero : i.zero = some z
  form : match v.isAgg with | true => ∃ a, z = .agg a ∧ ∀ F w, RepC F w v v.dflt a.toList | false => ∀ F w, RepC F w v v.dflt [z]
structure TOk (P : Program) (C : Ctx) (t : TypeId) (T : Ty) (d : TypeDesc) (i : TypeInfo) (z : Value) : Prop where
  und : P.underlying t = some d
  info : P.info? t = some i
  size : i.size = T.size
  row : d.isRow = T.isAgg
  zero : i.zero = some z
  rep : ∀ F w β H, All2 (RepV F w β H) (zeroC T) z.cells.toList
  int : ∀ k, T = .int k → d = .int k
  str : T = .str → d = .string
  bool : T = .bool → d = .bool
  sl : ∀ e, T = .sl e → e.isMp = false → d = .slice (C.el e) ∧ ∃ i z, EOk P (C.el e) e i z
  mp : ∀ k v, T = .sl (.mpe k v) → ∃ kt vt i z, d = .map kt vt ∧ MOk P kt vt k v i z
structure FOk (P : Program) (s : TypeId) (f : Nat) (fl : Fld) (fields : Array Field) (fd : Field) (i : TypeInfo) (d : TypeDesc) (pl : List (Nat × Nat)) : Prop where
  und : P.underlying s = some (.struct fields)
  at_ : fields[f]? = some fd
  off : fd.offset = fl.off
  info : P.info? fd.type = some i
  size : i.size = fl.size
  dund : P.underlying fd.type = some d
  row : d.isRow = fl.agg
  pos : 0 < fl.size
  places : fields.toList.mapM (fun f => (P.info? f.type).map fun i => (f.offset, i.size)) = some pl
  place : pl[f]? = some (fl.off, fl.size)
/-- A struct whose fields are plain, one cell each. -/
def EqFs (P : Program) : List Field → List Ty → Nat → Prop
  | [], [], _ => True
  | f :: r, t :: T, n => f.name ≠ "_" ∧ f.offset = n ∧ (match t with
    | .int _ => ∃ k, P.underlying f.type = some (.int k)
    | .bool => P.underlying f.type = some .bool
    | .str => P.underlying f.type = some .string
    | _ => False) ∧ EqFs P r T (n + 1)
  | _, _, _ => False
structure EqOk (P : Program) (t : TypeId) (T : List Ty) : Prop where
  und : P.underlying t = some (.struct (P.fieldsOf t))
  held : P.stoodInHeld t = false
  guard : P.eqGuardType P.depth t = false
  fields : EqFs P (P.fieldsOf t).toList T 0
/-- An array. -/
structure ArrOk (P : Program) (t : TypeId) (n : Nat) (T : Ty) (e : TypeId) (i ie : TypeInfo) (z : Value) : Prop where
  und : P.underlying t = some (.array n e)
  info : P.info? t = some i
  zero : i.zero = some z
  elem : P.info? e = some ie
  size : ie.size = T.size
  mp : T.isMp = false
  pos : 0 < n
  max : n ≤ 1000000
  zsize : z.cells.size = n * T.size
  rep : ∀ F w, RowC (RepC F w T) T.size (List.replicate n T.dflt) z.cells.toList
structure CtxOk (P : Program) (C : Ctx) : Prop where
  ty : ∀ t T, C.ty t = some T → ∃ d i z, TOk P C t T d i z
  fld : ∀ s f fl, C.fld s f = some fl → ∃ fields fd i d places, FOk P s f fl fields fd i d places
  mixed : P.follows .mixedOrders = true
  eqs : ∀ t T, C.eqs t = some T → EqOk P t T
  nd : ∀ f nf r r', C.nd f = some nf → nf r = some r' → r' = r
  arr : ∀ t n T, C.arr t = some (n, T) → ∃ e i ie z, ArrOk P t n T e i ie z
theorem CtxOk.on {P : Program} {C : Ctx} (h : CtxOk P C) : CtxOk P C.on :=
  ⟨fun t T e => by obtain ⟨d, i, z, k⟩ := h.ty t T e; exact ⟨d, i, z, ⟨k.und, k.info, k.size, k.row, k.zero, k.rep, k.int, k.str, k.bool, k.sl, k.mp⟩⟩, h.fld, h.mixed, h.eqs, h.nd, h.arr⟩

section
variable {P : Program} {C : Ctx} {F : Nat → Prop} {w : World} {β β' : Bd} {H G : Heap}
theorem isRow_eq (d : TypeDesc) : d.isRow = (match d with | .struct _ | .array _ _ => true | _ => false) := by cases d <;> rfl
theorem size_one {T : Ty} (h : T.isAgg = false) : T.size = 1 := by cases T <;> first | rfl | (simp [Ty.isAgg] at h)
theorem zeroC_len : ∀ T : Ty, (zeroC T).length = T.size
  | .int _ | .bool | .str | .unit | .opq => rfl
  | .sl t => by simp only [zeroC]; split <;> rfl
  | .pair a b => by simp [zeroC, Ty.size, zeroC_len a, zeroC_len b]

/-- A constant is what it says. -/
theorem const1 {v : Value} {c : CV} (h : constC v = some c) : RepV F w β G c v := by
  unfold constC at h
  split at h <;> first
    | (injection h with h; subst h; rfl)
    | skip
  · split at h
    · rename_i hh
      injection h with h
      subst h
      simp at hh
      exact ⟨#[], #[], by simp [hh.1, hh.2], .nil, .nil⟩
    · simp at h
  · simp at h
theorem mapM_all2 {α : Type} {γ : Type} {f : γ → Option α} {R : α → γ → Prop} (hf : ∀ a b, f b = some a → R a b) : ∀ {l : List γ} {m : List α}, l.mapM f = some m → All2 R m l
  | [], m, h => by simp at h; subst h; exact .nil
  | b :: l, m, h => by
    simp only [List.mapM_cons, Option.bind_eq_bind, Option.bind_eq_some_iff] at h
    obtain ⟨a, h1, r, h2, h3⟩ := h
    simp at h3
    subst h3
    exact .cons (hf _ _ h1) (mapM_all2 hf h2)
theorem constOk {v : Value} {a : AV} (h : constA v = some a) : RepA F w β G a v := by
  unfold constA at h
  split at h
  · rename_i cs
    simp only [Option.map_eq_some_iff] at h
    obtain ⟨l, h1, rfl⟩ := h
    exact ⟨cs, rfl, mapM_all2 (R := RepV F w β G) (fun a b h => const1 h) h1⟩
  · simp only [Option.map_eq_some_iff] at h
    obtain ⟨c, h1, rfl⟩ := h
    exact const1 h1
/-- What an operand's value is told to be. -/
def OpOk (F : Nat → Prop) (w : World) (β : Bd) (G : Heap) (env : List AV) (a : Act) (x : Operand) : Prop := ∀ v, opr env x = some v → RepA F w β G v (a.eval x)
theorem opr_ok {env : List AV} {a : Act} (x : Operand) (h : ∀ t, x = .tmp t → RepA F w β G (envAt env t) (a.tmps.getD t undef)) : OpOk F w β G env a x := by
  intro v hv
  cases x with
  | tmp t =>
    simp only [opr] at hv
    split at hv
    · simp at hv
    · injection hv with hv
      subst hv
      exact h t rfl
  | const c => exact constOk hv
  | func f => injection hv with hv; subst hv; exact ⟨#[], #[], rfl, .nil, .nil⟩
  | global g => simp [opr] at hv
theorem OpOk.cell {env : List AV} {a : Act} {x : Operand} (h : OpOk F w β G env a x) {c : CV} (hc : oprC env x = some c) : RepV F w β G c (a.eval x) := by
  simp only [oprC, Option.bind_eq_some_iff] at hc
  obtain ⟨v, h1, h2⟩ := hc
  cases v <;> simp [cell1] at h2
  subst h2
  exact h _ h1
theorem cells_ok {v : AV} {cs : List CV} {u : Value} (h : v.cells = some cs) (r : RepA F w β G v u) : All2 (RepV F w β G) cs u.cells.toList := by
  cases v with
  | one c =>
    simp [AV.cells] at h
    subst h
    have h1 := RepV.one r
    have : u.cells = #[u] := by cases u <;> first | rfl | (simp [Value.oneCell'] at h1)
    rw [this]
    exact .cons r .nil
  | agg cs' =>
    simp [AV.cells] at h
    subst h
    obtain ⟨vs, rfl, h2⟩ := r
    exact h2
  | _ => simp [AV.cells] at h
/-- New rows, each of a nil slice. -/
def Nils (sl : List Slot) : Prop := ∀ s ∈ sl, ∃ e t, s = Slot.row true e t [] ∧ t.isMp = false
theorem fixC_nils {el : Ty → TypeId} : ∀ (T : Ty) (cs : List CV) (n : Nat), Nils (fixC el T cs n).2.1
  | .sl t, [], n => fun s hs => by simp [fixC] at hs
  | .sl t, c :: r, n => by
    intro s hs
    cases c <;> simp only [fixC, List.not_mem_nil] at hs
    split at hs
    · simp at hs
    · rename_i hm
      exact ⟨_, _, by simpa using hs, hm⟩
  | .pair a b, cs, n => fun s hs => by
    simp only [fixC, List.mem_append] at hs
    rcases hs with hs | hs
    · exact fixC_nils a _ _ s hs
    · exact fixC_nils b _ _ s hs
  | .unit, cs, n => fun s hs => by simp [fixC] at hs
  | .int _, [], n => fun s hs => by simp [fixC] at hs
  | .int _, _ :: _, n => fun s hs => by simp [fixC] at hs
  | .bool, [], n => fun s hs => by simp [fixC] at hs
  | .bool, _ :: _, n => fun s hs => by simp [fixC] at hs
  | .str, [], n => fun s hs => by simp [fixC] at hs
  | .str, _ :: _, n => fun s hs => by simp [fixC] at hs
  | .opq, [], n => fun s hs => by simp [fixC] at hs
  | .opq, _ :: _, n => fun s hs => by simp [fixC] at hs
/-- The handles from n on are these slots, and bound to nil slices. -/
def AtN (β : Bd) (G : Heap) (n : Nat) (sl : List Slot) : Prop := ∀ j s, sl[j]? = some s → G[n + j]? = some s ∧ β (n + j) = some (.slice none 0 0)
theorem AtN.left {n : Nat} {a b : List Slot} (h : AtN β G n (a ++ b)) : AtN β G n a := fun j s hs => h j s (by rw [List.getElem?_append_left (List.getElem?_eq_some_iff.1 hs).1]; exact hs)
theorem AtN.right {n : Nat} {a b : List Slot} (h : AtN β G n (a ++ b)) : AtN β G (n + a.length) b := fun j s hs => by
  have := h (a.length + j) s (by rw [List.getElem?_append_right (by omega)]; simpa using hs)
  rw [← Nat.add_assoc] at this
  exact this
theorem fixC_ok {el : Ty → TypeId} : ∀ {T : Ty} {cs : List CV} {n : Nat} {vs : List Value}, All2 (RepV F w β G) cs vs → AtN β G n (fixC el T cs n).2.1 →
    ∃ v1 v2, vs = v1 ++ v2 ∧ All2 (RepV F w β G) (fixC el T cs n).1 v1 ∧ All2 (RepV F w β G) (fixC el T cs n).2.2 v2
  | .sl t, _, n, _, .nil, h => ⟨[], [], rfl, .nil, .nil⟩
  | .sl t, _, n, _, @All2.cons _ _ _ c v l m hr ht, h => by
    refine ⟨[v], m, rfl, ?_⟩
    cases c <;> simp only [fixC] at h ⊢ <;> first
      | exact ⟨.cons hr .nil, ht⟩
      | skip
    cases hm : t.isMp with
    | true =>
      simp only [hm] at h ⊢
      exact ⟨.cons (by rw [show v = _ from hr]; rfl) .nil, ht⟩
    | false =>
    simp only [hm] at h ⊢
    refine ⟨.cons ?_ .nil, ht⟩
    obtain ⟨h1, h2⟩ := h 0 _ rfl
    rw [Nat.add_zero] at h1 h2
    simp only [RepV, h1]
    rw [show v = _ from hr]
    exact ⟨h2, rfl⟩
  | .pair a b, cs, n, vs, hr, h => by
    simp only [fixC] at h ⊢
    obtain ⟨v1, v2, rfl, r1, r2⟩ := fixC_ok (T := a) (n := n) hr h.left
    obtain ⟨v3, v4, rfl, r3, r4⟩ := fixC_ok (T := b) (n := n + (fixC el a cs n).2.1.length) r2 h.right
    exact ⟨v1 ++ v3, v4, by simp, r1.append r3, r4⟩
  | .unit, cs, n, vs, hr, h => ⟨[], vs, rfl, .nil, hr⟩
  | .int _, _, n, _, .nil, h => ⟨[], [], rfl, .nil, .nil⟩
  | .int _, _, n, _, .cons hr ht, h => ⟨[_], _, rfl, .cons hr .nil, ht⟩
  | .bool, _, n, _, .nil, h => ⟨[], [], rfl, .nil, .nil⟩
  | .bool, _, n, _, .cons hr ht, h => ⟨[_], _, rfl, .cons hr .nil, ht⟩
  | .str, _, n, _, .nil, h => ⟨[], [], rfl, .nil, .nil⟩
  | .str, _, n, _, .cons hr ht, h => ⟨[_], _, rfl, .cons hr .nil, ht⟩
  | .opq, _, n, _, .nil, h => ⟨[], [], rfl, .nil, .nil⟩
  | .opq, _, n, _, .cons hr ht, h => ⟨[_], _, rfl, .cons hr .nil, ht⟩
theorem fixC_len {el : Ty → TypeId} : ∀ (T : Ty) (cs : List CV) (n : Nat), T.size ≤ cs.length → (fixC el T cs n).1.length = T.size ∧ (fixC el T cs n).2.2.length = cs.length - T.size
  | .sl t, [], n, h => by simp [Ty.size] at h
  | .sl t, c :: r, n, h => by cases c <;> simp [fixC, Ty.size] <;> split <;> simp
  | .pair a b, cs, n, h => by
    simp only [Ty.size] at h
    have h1 := fixC_len (el := el) a cs n (by omega)
    have h2 := fixC_len (el := el) b (fixC el a cs n).2.2 (n + (fixC el a cs n).2.1.length) (by omega)
    simp only [fixC, Ty.size, List.length_append]
    omega
  | .unit, cs, n, h => by simp [fixC, Ty.size]
  | .int _, c :: r, n, h => by simp [fixC, Ty.size]
  | .bool, c :: r, n, h => by simp [fixC, Ty.size]
  | .str, c :: r, n, h => by simp [fixC, Ty.size]
  | .opq, c :: r, n, h => by simp [fixC, Ty.size]
  | .int _, [], n, h | .bool, [], n, h | .str, [], n, h | .opq, [], n, h => by simp [Ty.size] at h
theorem opd_nils {env : List AV} {n : Nat} {t : TypeId} {x : Operand} {v : AV} {sl : List Slot} (h : opd C env n t x = some (v, sl)) : Nils sl := by
  unfold opd at h
  split at h
  · simp only [Option.map_eq_some_iff] at h
    obtain ⟨_, _, h⟩ := h
    injection h with _ h
    subst h
    intro s hs; simp at hs
  · simp only [Option.bind_eq_some_iff] at h
    obtain ⟨u, h1, cs, h2, h⟩ := h
    split at h
    · injection h with h; injection h with _ h; subst h; intro s hs; simp at hs
    · rename_i ty hty
      have hn := fixC_nils (el := C.el) ty cs n
      split at h
      case h_2 => simp at h
      rename_i cs' sl' he
      rw [he] at hn
      split at h
      · injection h with h; injection h with _ h; subst h; exact hn
      · simp only [Option.map_eq_some_iff] at h
        obtain ⟨_, _, h⟩ := h
        injection h with _ h; subst h; exact hn
theorem opd_ok {env : List AV} {a : Act} {n : Nat} {t : TypeId} {x : Operand} {v : AV} {sl : List Slot} (hx : OpOk F w β G env a x) (h : opd C env n t x = some (v, sl)) (hn : AtN β G n sl) : RepA F w β G v (a.eval x) := by
  unfold opd at h
  split at h
  · simp only [Option.map_eq_some_iff] at h
    obtain ⟨u, h1, h⟩ := h
    injection h with h _
    subst h
    exact hx _ h1
  · simp only [Option.bind_eq_some_iff] at h
    obtain ⟨u, h1, cs, h2, h⟩ := h
    have r := hx _ h1
    split at h
    · injection h with h; injection h with h _; subst h; exact r
    · rename_i ty hty
      split at h
      case h_2 => simp at h
      rename_i cs' sl' he
      have hk := cells_ok h2 r
      split at h
      · injection h with h; injection h with h hs
        subst h hs
        rename_i cs0
        obtain ⟨vs, hv, h3⟩ := r
        simp [AV.cells] at h2
        subst h2
        have := fixC_ok (el := C.el) (T := ty) (n := n) h3 (by rw [he]; exact hn)
        rw [he] at this
        obtain ⟨v1, v2, e, r1, r2⟩ := this
        cases r2
        exact ⟨vs, hv, by rw [e, List.append_nil]; exact r1⟩
      · simp only [Option.map_eq_some_iff] at h
        obtain ⟨v', hm, h⟩ := h
        injection h with h hs
        subst h hs
        cases u with
        | one c =>
          simp [AV.cells] at h2
          subst h2
          have h1' := RepV.one r
          have := fixC_ok (el := C.el) (T := ty) (n := n) (All2.cons r .nil) (by rw [he]; exact hn)
          rw [he] at this
          obtain ⟨v1, v2, e, r1, r2⟩ := this
          cases r2
          rw [List.append_nil] at e
          subst e
          unfold mkAV at hm
          simp only [Bool.false_eq_true, if_false] at hm
          split at hm
          · injection hm with hm
            subst hm
            cases r1 with
            | cons r1 _ => exact r1
          · simp at hm
        | agg cs0 => rename_i hne; exact absurd rfl (hne cs0)
        | _ => simp [AV.cells] at h2

/-! ### What a quiet operation does -/
def QPost (P : Program) (base : Nat → Prop) (F : Nat → Prop) (w : World) (β : Bd) (G : Heap) (n : Nat) (o : Oper) (a : Act) (v : AV) (sl : List Slot) : Prop :=
  ∃ (v' : Value) (w' : World) (us : List Value), (execOp a.eval o).run P w = .ok (.value v') w' ∧ us.length = sl.length ∧ (Below w.heap.size w w' ∧ (sl = [] → w' = w)) ∧
    (∀ (j : Nat) (u : Value) (g : Nat), us[j]? = some u → blk u = some g → j = 0 ∧ w.heap.size ≤ g ∧ g < w'.heap.size) ∧
    ∀ β' : Bd, (∀ h u, β h = some u → β' h = some u) → (∀ (j : Nat) (u : Value), us[j]? = some u → β' (n + j) = some u) →
      (∀ (j : Nat) (s : Slot) (u : Value), sl[j]? = some s → us[j]? = some u → SlotOk base F w' β' G s u) ∧ RepA F w' β' G v v'
/-- What is known ahead of an operation. -/
structure Pre (L : Nat → Prop) (w0 w : World) (F0 F : Nat → Prop) (β : Bd) (H G : Heap) (n : Nat) (sl : List Slot) : Prop where
  good : Good L w0 w F0 F β G
  pre : ∀ (h : Nat) (s : Slot), H[h]? = some s → s ≠ .dead → G[h]? = some s
  new : ∀ (j : Nat) (s : Slot), sl[j]? = some s → G[n + j]? = some s
variable {L : Nat → Prop} {w0 : World} {F0 : Nat → Prop} {n : Nat} {sl : List Slot} {env : List AV} {a : Act} {o : Oper} {v : AV}
theorem keeps_ext (h : ∀ h u, β h = some u → β' h = some u) (hw : ∀ g, F g → w.heap[g]? = w.heap[g]?) : Keeps F F w w β β' G G :=
  ⟨fun _ h => h, fun _ _ => rfl, h, fun h s hs => ⟨s, hs, by cases s <;> first | trivial | exact ⟨rfl, fun _ => rfl, id⟩⟩⟩
theorem keeps_world {w' : World} (gd : Good L w0 w F0 F β G) (hb : Below w.heap.size w w') (h : ∀ h u, β h = some u → β' h = some u) : Keeps F F w w' β β' G G :=
  ⟨fun _ h => h, fun g hg => hb.block g (gd.fsz g hg), h, fun h s hs => ⟨s, hs, by cases s <;> first | trivial | exact ⟨rfl, fun _ => rfl, id⟩⟩⟩
theorem QPost.pure {v' : Value} (hr : (execOp a.eval o).run P w = .ok (.value v') w) (r : RepA F w β G v v') (base : Nat → Prop) : QPost P base F w β G n o a v [] :=
  ⟨v', w, [], hr, rfl, ⟨Below.refl _ _, fun _ => rfl⟩, fun j u g h => by simp at h, fun β' hb _ => ⟨fun j s u h => by simp at h, r.mono (keeps_ext hb fun _ _ => rfl)⟩⟩
theorem Pre.slot (p : Pre L w0 w F0 F β H G n sl) {h : Nat} {s : Slot} (e : slotAt H h = s) (hs : s ≠ .dead) : G[h]? = some s := by
  unfold slotAt at e
  rw [List.getD_eq_getElem?_getD] at e
  cases hh : H[h]? with
  | none => rw [hh] at e; exact absurd e.symm hs
  | some s' => rw [hh] at e; simp at e; subst e; exact p.pre _ _ hh hs
theorem nils_at {us : List Value} (hn : Nils sl) (e : us = List.replicate sl.length (.slice none 0 0)) (hG : ∀ (j : Nat) (s : Slot), sl[j]? = some s → G[n + j]? = some s) (hb : ∀ (j : Nat) (u : Value), us[j]? = some u → β' (n + j) = some u) : AtN β' G n sl := by
  intro j s hs
  refine ⟨hG j s hs, hb j _ ?_⟩
  have hj := (List.getElem?_eq_some_iff.1 hs).1
  rw [e, List.getElem?_replicate_of_lt hj]
theorem nil_slot {base : Nat → Prop} {s : Slot} (h : ∃ e t, s = Slot.row true e t [] ∧ t.isMp = false) : SlotOk base F w β' G s (.slice none 0 0) := by
  obtain ⟨e, t, rfl, hm⟩ := h
  exact ⟨⟨[], (owns_sl hm).2 (own_of (World.ownsRow_nil _ _ _ _)), by simp, fun i x h => by simp at h⟩, fun g h => by simp [blk] at h⟩
theorem Nils.slots {base : Nat → Prop} (hn : Nils sl) {j : Nat} {s : Slot} {u : Value} (hs : sl[j]? = some s) (hu : (List.replicate sl.length (Value.slice none 0 0))[j]? = some u) : SlotOk base F w β' G s u := by
  have hj := (List.getElem?_eq_some_iff.1 hs).1
  rw [List.getElem?_replicate_of_lt hj] at hu
  injection hu with hu
  subst hu
  exact nil_slot (hn _ (List.mem_of_getElem? hs))
theorem nils_blk {k j : Nat} {u : Value} {g : Nat} (hu : (List.replicate k (Value.slice none 0 0))[j]? = some u) (hg : blk u = some g) : False := by
  have := List.mem_of_getElem? hu
  rw [List.mem_replicate] at this
  rw [this.2] at hg
  simp [blk] at hg

section ops
variable (p : Pre L w0 w F0 F β H G n sl) (hE : ∀ x ∈ o.op.operands, OpOk F w β G env a x) (cx : CtxOk P C)
include p hE cx
theorem q_move {x : Operand} (ho : o.op = .move x ∨ o.op = .assign x) (h : opd C env n o.type x = some (v, sl)) : QPost P (Bs L w0) F w β G n o a v sl := by
  have hn := opd_nils h
  have hx : OpOk F w β G env a x := hE x (by rcases ho with e | e <;> rw [e] <;> simp [Op.operands])
  refine ⟨a.eval x, w, List.replicate sl.length (.slice none 0 0), ?_, by simp, ⟨Below.refl _ _, fun _ => rfl⟩, fun j u g hu hg => (nils_blk hu hg).elim, fun β' hb hβ => ⟨fun j s u hs hu => hn.slots hs hu, ?_⟩⟩
  · rcases ho with e | e <;> simp [execOp, e]
  · exact opd_ok (fun v hv => (hx v hv).mono (keeps_ext hb fun _ _ => rfl)) h (nils_at hn rfl p.new hβ)
end ops
end
end Go.Proofs.Ytanpdkllnmeenaa.Am

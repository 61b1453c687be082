/- The types, looked through once. -/
import Derived.Test.YtanpdkllnmeenaaAmKit
namespace Go.Proofs.Ytanpdkllnmeenaa.Am
open Go Go.RowKit
set_option linter.unusedVariables false
set_option linter.unusedSectionVars false
set_option linter.unusedSimpArgs false
/-- Do these cells say what a type begins with? -/
def zeroB : List CV → List Value → Bool
  | [], [] => true
  | c :: r, v :: s => (match c, v with
    | .nils, .slice none 0 0 => true
    | .int k n, .int k' m => decide (k' = k) && decide (m = n)
    | .bool b, .bool b' => b == b'
    | .str s, .string s' => s.data.toList.isEmpty && s'.data.toList.isEmpty
    | .undef, v => v.oneCell'
    | _, _ => false) && zeroB r s
  | _, _ => false
def repB : Ty → List Value → Bool
  | .int k, [.int k' n] => decide (k' = k) && decide (n = 0)
  | .bool, [.bool b] => !b
  | .str, [.string s] => s.data.toList.isEmpty
  | .sl t, [.slice _ 0 _] => !t.isMp
  | .pair a b, cs => repB a (cs.take a.size) && repB b (cs.drop a.size)
  | .unit, [] => true
  | _, _ => false
section
variable {P : Program} {C : Ctx}
theorem bytes_nil {s : ByteArray} (h : s.data.toList.isEmpty = true) : s = ByteArray.empty := by
  cases s with
  | mk d =>
    cases d with
    | mk l =>
      simp at h
      subst h
      rfl
theorem zeroB_ok {F : Nat → Prop} {w : World} {β : Bd} {H : Heap} : ∀ {cs : List CV} {vs : List Value}, zeroB cs vs = true → All2 (RepV F w β H) cs vs
  | [], [], _ => .nil
  | [], _ :: _, h => by simp [zeroB] at h
  | _ :: _, [], h => by simp [zeroB] at h
  | c :: r, v :: s, h => by
    simp only [zeroB, Bool.and_eq_true] at h
    refine .cons ?_ (zeroB_ok h.2)
    have h1 := h.1
    split at h1
    · rfl
    · simp at h1; obtain ⟨rfl, rfl⟩ := h1; rfl
    · simp at h1; subst h1; rfl
    · simp only [Bool.and_eq_true] at h1
      rw [bytes_nil h1.1, bytes_nil h1.2]; rfl
    · exact h1
    · simp at h1
theorem repB_ok {F : Nat → Prop} {w : World} : ∀ (t : Ty) (cs : List Value), repB t cs = true → RepC F w t t.dflt cs := by
  intro t
  induction t with
  | int k =>
    intro cs h
    match cs with
    | [] => simp [repB] at h
    | [v] => cases v <;> simp [repB] at h; obtain ⟨rfl, rfl⟩ := h; rfl
    | _ :: _ :: _ => simp [repB] at h
  | bool =>
    intro cs h
    match cs with
    | [] => simp [repB] at h
    | [v] => cases v <;> simp [repB] at h; subst h; rfl
    | _ :: _ :: _ => simp [repB] at h
  | str =>
    intro cs h
    match cs with
    | [] => simp [repB] at h
    | [v] =>
      cases v with
      | string s =>
        have := bytes_nil (s := s) (by simpa [repB] using h)
        subst this; rfl
      | _ => simp [repB] at h
    | _ :: _ :: _ => simp [repB] at h
  | sl t _ =>
    intro cs h
    match cs with
    | [] => simp [repB] at h
    | [v] =>
      cases v with
      | slice A n c =>
        cases n with
        | zero =>
          have hm : t.isMp = false := by simpa [repB] using h
          exact ⟨A, c, by rw [hdr_sl hm]; rfl, Nat.zero_le _, .inl ⟨rfl, fun h => by simp [hm] at h⟩⟩
        | succ n => simp [repB] at h
      | _ => simp [repB] at h
    | _ :: _ :: _ => simp [repB] at h
  | pair a b iha ihb =>
    intro cs h
    simp only [repB, Bool.and_eq_true] at h
    exact ⟨cs.take a.size, cs.drop a.size, (List.take_append_drop _ _).symm, iha _ h.1, ihb _ h.2⟩
  | unit =>
    intro cs h
    match cs with
    | [] => rfl
    | _ :: _ => simp [repB] at h
  | opq => intro cs h; simp [repB] at h
def elemB (P : Program) (e : TypeId) (t : Ty) : Bool :=
  match P.info? e with
  | some i => match i.zero with
    | some z => Nat.beq i.size t.size && (Nat.ble i.bytes 64 && (Nat.beq z.cells.size t.size && (repB t z.cells.toList && Nat.blt 0 t.size)))
    | none => false
  | none => false
def zeroMB (P : Program) (vt : TypeId) (v : Ty) : Bool :=
  match P.info? vt with
  | some i => match i.zero with
    | some z => (match v.isAgg with
      | true => (match z with | .agg a => repB v a.toList | _ => false)
      | false => repB v [z])
    | none => false
  | none => false
def mapB (P : Program) (kt vt : TypeId) : Ty → Bool
  | .pair .unit (.pair (.int k) v) => (match P.underlying kt with | some (.int k') => decide (k' = k) | _ => false) && zeroMB P vt v
  | _ => false
def descB (P : Program) (C : Ctx) (T : Ty) (d : TypeDesc) : Bool :=
  match T, d with
  | .int k, .int k' => decide (k' = k) | .int _, _ => false
  | .str, .string => true | .str, _ => false
  | .bool, .bool => true | .bool, _ => false
  | .sl e, .slice e' => !e.isMp && (Nat.beq e' (C.el e) && elemB P e' e) | .sl e, .map kt vt => mapB P kt vt e | .sl _, _ => false
  | _, _ => true
def tyB (P : Program) (C : Ctx) (t : TypeId) (T : Ty) : Bool :=
  match P.underlying t, P.info? t with
  | some d, some i => match i.zero with
    | some z => Nat.beq i.size T.size && ((d.isRow == T.isAgg) && (zeroB (zeroC T) z.cells.toList && descB P C T d))
    | none => false
  | _, _ => false
theorem zeroMB_ok {kt vt : TypeId} {k : IntKind} {v : Ty} (hk : P.underlying kt = some (.int k)) (h : zeroMB P vt v = true) : ∃ i z, MOk P kt vt k v i z := by
  unfold zeroMB at h
  split at h
  · rename_i i hi
    split at h
    · rename_i z hz
      refine ⟨i, z, hk, hi, hz, ?_⟩
      cases ha : v.isAgg with
      | true =>
        rw [ha] at h
        simp only at h ⊢
        split at h
        · rename_i a
          exact ⟨a, rfl, fun F w => repB_ok _ _ h⟩
        · simp at h
      | false =>
        rw [ha] at h
        simp only at h ⊢
        exact fun F w => repB_ok _ _ h
    · simp at h
  · simp at h
theorem mapB_ok {kt vt : TypeId} {k : IntKind} {v : Ty} (h : mapB P kt vt (.mpe k v) = true) : ∃ i z, MOk P kt vt k v i z := by
  simp only [mapB, Bool.and_eq_true] at h
  obtain ⟨h1, h2⟩ := h
  split at h1
  · rename_i k' hk
    simp at h1
    subst h1
    exact zeroMB_ok hk h2
  · simp at h1
theorem elemB_ok {e : TypeId} {t : Ty} (h : elemB P e t = true) : ∃ i z, EOk P e t i z := by
  unfold elemB at h
  split at h
  · rename_i i hi
    split at h
    · rename_i z hz
      simp only [Bool.and_eq_true] at h
      obtain ⟨h1, h2, h3, h4, h5⟩ := h
      exact ⟨i, z, hi, Nat.eq_of_beq_eq_true h1, Nat.le_of_ble_eq_true h2, hz, Nat.eq_of_beq_eq_true h3, fun F w => repB_ok t _ h4, Nat.le_of_ble_eq_true h5⟩
    · simp at h
  · simp at h
theorem tyB_ok {t : TypeId} {T : Ty} (h : tyB P C t T = true) : ∃ d i z, TOk P C t T d i z := by
  unfold tyB at h
  split at h
  · rename_i d i hd hi
    split at h
    · rename_i z hz
      simp only [Bool.and_eq_true, beq_iff_eq] at h
      obtain ⟨h1, h2, h3, h4⟩ := h
      refine ⟨d, i, z, hd, hi, Nat.eq_of_beq_eq_true h1, h2, hz, fun F w β H => zeroB_ok h3, fun k e => ?_, fun e => ?_, fun e => ?_, fun e he hm => ?_, fun k v he => ?_⟩
      · subst e; cases d <;> simp [descB] at h4; subst h4; rfl
      · subst e; cases d <;> simp [descB] at h4; rfl
      · subst e; cases d <;> simp [descB] at h4; rfl
      · subst he
        cases d with
        | slice e' =>
          simp only [descB, Bool.and_eq_true] at h4
          have e1 := Nat.eq_of_beq_eq_true h4.2.1
          rw [← e1]
          exact ⟨rfl, elemB_ok h4.2.2⟩
        | map kt vt =>
          simp only [descB] at h4
          unfold mapB at h4
          split at h4
          · simp [Ty.isMp] at hm
          · simp at h4
        | _ => simp [descB] at h4
      · subst he
        cases d with
        | slice e' => simp [descB, Ty.isMp] at h4
        | map kt vt =>
          obtain ⟨i, z, h⟩ := mapB_ok h4
          exact ⟨kt, vt, i, z, rfl, h⟩
        | _ => simp [descB] at h4
    · simp at h
  · simp at h
/-- A struct's places. -/
def placesB (P : Program) : List Field → Option (List (Nat × Nat))
  | [] => some []
  | f :: r => (P.info? f.type).bind fun i => (placesB P r).map fun l => (f.offset, i.size) :: l
theorem placesB_eq : ∀ l : List Field, l.mapM (fun f => (P.info? f.type).map fun i => (f.offset, i.size)) = placesB P l
  | [] => rfl
  | f :: r => by
    rw [List.mapM_cons, placesB_eq r, placesB]
    cases P.info? f.type with
    | none => rfl
    | some i => cases placesB P r <;> rfl
def fldB (P : Program) (s : TypeId) (f : Nat) (fl : Fld) : Bool :=
  match P.underlying s with
  | some (.struct fields) => match fields[f]? with
    | some fd => match P.info? fd.type, P.underlying fd.type, placesB P fields.toList with
      | some i, some d, some pl => Nat.beq fd.offset fl.off && (Nat.beq i.size fl.size && ((d.isRow == fl.agg) && (Nat.blt 0 fl.size && (match pl[f]? with | some p => Nat.beq p.1 fl.off && Nat.beq p.2 fl.size | none => false))))
      | _, _, _ => false
    | none => false
  | _ => false
theorem fldB_ok {s : TypeId} {f : Nat} {fl : Fld} (h : fldB P s f fl = true) : ∃ fields fd i d pl, FOk P s f fl fields fd i d pl := by
  unfold fldB at h
  split at h
  · rename_i fields hu
    split at h
    · rename_i fd hf
      split at h
      · rename_i i d pl hi hd hp
        simp only [Bool.and_eq_true, beq_iff_eq] at h
        obtain ⟨h1, h2, h3, h4, h5⟩ := h
        split at h5
        · rename_i p hpl
          simp only [Bool.and_eq_true] at h5
          exact ⟨fields, fd, i, d, pl, hu, hf, Nat.eq_of_beq_eq_true h1, hi, Nat.eq_of_beq_eq_true h2, hd, h3, Nat.le_of_ble_eq_true h4, by rw [placesB_eq]; exact hp, by rw [hpl, ← Nat.eq_of_beq_eq_true h5.1, ← Nat.eq_of_beq_eq_true h5.2]⟩
        · simp at h5
      · simp at h
    · simp at h
  · simp at h
/-! Structs that are compared. -/
def eqFB (P : Program) : List Field → List Ty → Nat → Bool
  | [], [], _ => true
  | f :: r, t :: T, n => (!(f.name == "_")) && (Nat.beq f.offset n && ((match t, P.underlying f.type with
    | .int _, some (.int _) => true
    | .bool, some .bool => true
    | .str, some .string => true
    | _, _ => false) && eqFB P r T (n + 1)))
  | _, _, _ => false
def eqTB (P : Program) (t : TypeId) (T : List Ty) : Bool := match P.underlying t with
  | some (.struct fs) => !P.stoodInHeld t && (!P.eqGuardType P.depth t && eqFB P fs.toList T 0)
  | _ => false
theorem eqFB_ok : ∀ {fs : List Field} {T : List Ty} {n : Nat}, eqFB P fs T n = true → EqFs P fs T n
  | [], [], _, _ => trivial
  | [], _ :: _, _, h => by simp [eqFB] at h
  | _ :: _, [], _, h => by simp [eqFB] at h
  | f :: r, t :: T, n, h => by
    simp only [eqFB, Bool.and_eq_true] at h
    obtain ⟨h1, h2, h3, h4⟩ := h
    refine ⟨by simpa using h1, Nat.eq_of_beq_eq_true h2, ?_, eqFB_ok h4⟩
    split at h3
    · rename_i k hk; exact ⟨_, hk⟩
    · assumption
    · assumption
    · simp at h3
theorem eqTB_ok {t : TypeId} {T : List Ty} (h : eqTB P t T = true) : EqOk P t T := by
  unfold eqTB at h
  split at h
  · rename_i fs hu
    have hf : P.fieldsOf t = fs := by simp [Program.fieldsOf, hu]
    simp only [Bool.and_eq_true] at h
    obtain ⟨h1, h2, h3⟩ := h
    exact ⟨by rw [hf]; exact hu, by simpa using h1, by simpa using h2, by rw [hf]; exact eqFB_ok h3⟩
  · simp at h
/-! Arrays. -/
def rowB (t : Ty) : Nat → List Value → Bool
  | 0, [] => true
  | n + 1, cs => repB t (cs.take t.size) && (Nat.beq (cs.take t.size).length t.size && rowB t n (cs.drop t.size))
  | _, _ => false
def arrB (P : Program) (t : TypeId) (n : Nat) (T : Ty) : Bool := match P.underlying t, P.info? t with
  | some (.array m e), some i => match i.zero, P.info? e with
    | some z, some ie => Nat.beq m n && (Nat.beq ie.size T.size && (!T.isMp && (Nat.blt 0 n && (Nat.ble n 1000000 && rowB T n z.cells.toList))))
    | _, _ => false
  | _, _ => false
theorem rowB_ok {t : Ty} : ∀ {n : Nat} {cs : List Value}, rowB t n cs = true → cs.length = n * t.size ∧ ∀ (F : Nat → Prop) (w : World), RowC (RepC F w t) t.size (List.replicate n t.dflt) cs
  | 0, [], _ => ⟨by simp, fun F w => ⟨by simp, fun i x h => by simp at h⟩⟩
  | 0, _ :: _, h => by simp [rowB] at h
  | n + 1, cs, h => by
    simp only [rowB, Bool.and_eq_true] at h
    obtain ⟨h1, h2, h3⟩ := h
    have h2 := Nat.eq_of_beq_eq_true h2
    obtain ⟨h4, h5⟩ := rowB_ok h3
    have hl : cs.length = (n + 1) * t.size := by
      rw [List.length_drop] at h4
      rw [List.length_take] at h2
      rw [Nat.add_mul]
      omega
    refine ⟨hl, fun F w => ?_⟩
    have a : RowC (RepC F w t) t.size [t.dflt] (cs.take t.size) := ⟨by rw [h2]; simp, fun i x hx => by
      cases i with
      | zero =>
        simp at hx
        subst hx
        rw [Nat.zero_mul, List.drop_zero, List.take_take, Nat.min_self]
        exact repB_ok _ _ h1
      | succ i => simp at hx⟩
    have := a.append (h5 F w)
    rw [List.take_append_drop] at this
    exact this
theorem arrB_ok {t : TypeId} {n : Nat} {T : Ty} (h : arrB P t n T = true) : ∃ e i ie z, ArrOk P t n T e i ie z := by
  unfold arrB at h
  split at h
  · rename_i m e i hu hi
    split at h
    · rename_i z ie hz he
      simp only [Bool.and_eq_true, Bool.not_eq_true'] at h
      obtain ⟨h1, h2, h3, h4, h5, h6⟩ := h
      have e1 := Nat.eq_of_beq_eq_true h1
      subst e1
      have e6 := rowB_ok h6
      exact ⟨e, i, ie, z, hu, hi, hz, he, Nat.eq_of_beq_eq_true h2, h3, Nat.le_of_ble_eq_true h4, Nat.le_of_ble_eq_true h5, by rw [← Array.length_toList]; exact e6.1, fun F w => e6.2 F w⟩
    · simp at h
  · simp at h
theorem look_mem {α : Type} : ∀ {l : List (Nat × α)} {t : Nat} {x : α}, look l t = some x → (t, x) ∈ l
  | [], _, _, h => by simp [look] at h
  | (k, v) :: r, t, x, h => by
    simp only [look] at h
    split at h
    · rename_i e
      injection h with h
      subst h
      rw [Nat.eq_of_beq_eq_true e]
      simp
    · exact List.mem_cons_of_mem _ (look_mem h)
theorem all_ok {α : Type} {p : α → Bool} {l : List α} (h : l.all p = true) {x : α} (hx : x ∈ l) : p x = true := List.all_eq_true.1 h x hx
/-- The context out of tables. -/
theorem ctx_ok {tys : List (Nat × Ty)} {flds : List (Nat × List (Nat × Fld))} (h1 : C.ty = look tys) (h2 : C.fld = fun s f => (look flds s).bind fun l => look l f) (h3 : tys.all (fun p => tyB P C p.1 p.2) = true) (h4 : flds.all (fun p => p.2.all fun q => fldB P p.1 q.1 q.2) = true) (h5 : P.follows .mixedOrders = true) {eqs : List (Nat × List Ty)} (h6 : C.eqs = look eqs) (h7 : eqs.all (fun p => eqTB P p.1 p.2) = true) {nds : List (Nat × VS)} (h8 : C.nd = fun f => (look nds f).map fun (s : VS) (r : AV) => (s.dec r).map s.enc) {arrs : List (Nat × Nat × Ty)} (h9 : C.arr = look arrs) (h10 : arrs.all (fun p => arrB P p.1 p.2.1 p.2.2) = true) : CtxOk P C := by
  refine ⟨fun t T h => ?_, fun s f fl h => ?_, h5, fun t T h => by rw [h6] at h; exact eqTB_ok (all_ok h7 (look_mem h)), fun f nf r r' e1 e2 => by
    rw [h8] at e1
    simp only [Option.map_eq_some_iff] at e1
    obtain ⟨s, _, rfl⟩ := e1
    simp only [Option.map_eq_some_iff] at e2
    obtain ⟨x, h9, rfl⟩ := e2
    exact (VS.dec_ok h9).symm, fun t n T h => by rw [h9] at h; exact arrB_ok (all_ok h10 (look_mem h))⟩
  · rw [h1] at h
    exact tyB_ok (all_ok h3 (look_mem h))
  · rw [h2] at h
    simp only [Option.bind_eq_some_iff] at h
    obtain ⟨l, e1, e2⟩ := h
    exact fldB_ok (all_ok (all_ok h4 (look_mem e1)) (look_mem e2))
theorem names_ok {fs : List Func} (h1 : P.funcs.toList = fs) (h2 : fs.all (fun fn => !(fn.name == "runtime.NumGoroutine")) = true) : ∀ (g : FuncId) (fn : Func), P.funcs[g]? = some fn → (fn.name == "runtime.NumGoroutine") = false := by
  intro g fn h
  have hm : fn ∈ fs := by
    rw [← h1]
    exact List.mem_of_getElem? (by rw [Array.getElem?_toList]; exact h)
  simpa using all_ok h2 hm
end
end Go.Proofs.Ytanpdkllnmeenaa.Am

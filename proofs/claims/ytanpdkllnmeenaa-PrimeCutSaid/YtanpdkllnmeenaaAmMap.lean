/- Maps: how they lie, and what is looked up. -/
import Derived.Test.YtanpdkllnmeenaaAmQ4
namespace Go.Proofs.Ytanpdkllnmeenaa.Am
open Go Go.RowKit
set_option linter.unusedVariables false
set_option linter.unusedSectionVars false
set_option linter.unusedSimpArgs false
section
variable {P : Program} {C : Ctx} {F : Nat → Prop} {w : World} {β β' : Bd} {H G : Heap}
variable {L : Nat → Prop} {w0 : World} {F0 : Nat → Prop} {n : Nat} {sl : List Slot} {env : List AV} {a : Act} {o : Oper} {v : AV}
theorem flat_len {α : Type} {f : α → List Value} {n : Nat} : ∀ {l : List α}, (∀ x ∈ l, (f x).length = n) → ((l.map f).flatten).length = l.length * n
  | [], _ => by simp
  | x :: l, h => by
    rw [List.map_cons, List.flatten_cons, List.length_append, h x (by simp), flat_len (l := l) fun y hy => h y (by simp [hy]), List.length_cons, Nat.add_mul]
    omega
theorem flat_at {α : Type} {f : α → List Value} {n : Nat} : ∀ {l : List α} {i : Nat} {x : α}, (∀ x ∈ l, (f x).length = n) → l[i]? = some x → ((((l.map f).flatten).drop (i * n)).take n) = f x
  | [], i, x, _, h => by simp at h
  | y :: l, 0, x, hn, h => by
    simp at h
    subst h
    have := hn y (by simp)
    rw [Nat.zero_mul, List.drop_zero, List.map_cons, List.flatten_cons, ← this, List.take_left']
    rfl
  | y :: l, i + 1, x, hn, h => by
    have := hn y (by simp)
    rw [List.map_cons, List.flatten_cons, Nat.add_mul, Nat.one_mul, Nat.add_comm, ← List.drop_drop, List.drop_append_of_le_length (by omega), List.drop_of_length_le (l := f y) (by omega), List.nil_append]
    exact flat_at (fun z hz => hn z (by simp [hz])) (by simpa using h)
theorem ent_cells {k : IntKind} {v : Ty} {e : MapEntry} {x : Unit × Int × v.den} : EntR F w k v e x ↔ RepC F w (.mpe k v) x (entCells v.isAgg e) ∧ (v.isAgg = true → ∃ a, e.val = .agg a) := by
  constructor
  · rintro ⟨h1, h2⟩
    unfold ValR at h2
    cases hv : v.isAgg with
    | true =>
      simp only [hv] at h2
      obtain ⟨a, h3, h4⟩ := h2
      refine ⟨⟨[], _, rfl, rfl, ⟨[.int k x.2.1], a.toList, ?_, rfl, h4⟩⟩, fun _ => ⟨a, h3⟩⟩
      simp [entCells, h1, h3]
    | false =>
      simp only [hv] at h2
      refine ⟨⟨[], _, rfl, rfl, ⟨[.int k x.2.1], [e.val], ?_, rfl, h2⟩⟩, fun h => by simp at h⟩
      simp [entCells, h1]
  · rintro ⟨⟨c1, c2, h1, h2, d1, d2, h3, h4, h5⟩, h6⟩
    have h2' : c1 = [] := h2
    have h4' : d1 = [.int k x.2.1] := h4
    subst h2' h4' h3
    unfold EntR ValR
    cases hv : v.isAgg with
    | true =>
      obtain ⟨a, h7⟩ := h6 hv
      simp [entCells, hv, h7] at h1
      exact ⟨h1.1, a, h7, by rw [h1.2]; exact h5⟩
    | false =>
      simp [entCells, hv] at h1
      exact ⟨h1.1, by simp only; rw [h1.2]; exact h5⟩
theorem ent_len {k : IntKind} {v : Ty} {e : MapEntry} {x : Unit × Int × v.den} (h : EntR F w k v e x) : (entCells v.isAgg e).length = (Ty.mpe k v).size := (ent_cells.1 h).1.len
theorem mpe_size (k : IntKind) (v : Ty) : 0 < (Ty.mpe k v).size := by simp only [Ty.size]; omega
/-- A map, as it lies there. -/
theorem lies_map {k : IntKind} {v : Ty} {g o : Nat} {cells : List Value} {xs : List (Unit × Int × v.den)} (h : Lies (.mpe k v) w g o cells) (hr : RowC (RepC F w (.mpe k v)) (Ty.mpe k v).size xs cells) : ∃ arr, w.heap[g]? = some (.map arr arr.size) ∧ MapR F w k v arr xs := by
  simp only [Lies, Ty.isMp] at h
  obtain ⟨arr, h1, h2, h3⟩ := h
  have hl : ∀ e ∈ arr.toList, (entCells v.isAgg e).length = (Ty.mpe k v).size := fun e he => by
    obtain ⟨i, hi⟩ := List.getElem?_of_mem he
    exact (h2 i e (by rwa [Array.getElem?_toList] at hi)).2.1
  have hlen : arr.toList.length = xs.length := by
    have e1 := hr.1
    rw [h3] at e1
    have e2 := flat_len (f := entCells v.isAgg) hl
    have e3 : arr.toList.length * (Ty.mpe k v).size = xs.length * (Ty.mpe k v).size := by rw [← e2]; exact e1
    exact Nat.eq_of_mul_eq_mul_right (mpe_size k v) e3
  refine ⟨arr, h1, fun i e he => (h2 i e he).1, All2.of_get hlen fun i e x he hx => ?_⟩
  have he' : arr[i]? = some e := by rwa [Array.getElem?_toList] at he
  have := hr.2 i x hx
  rw [h3, show (mpAgg (.pair .unit (.pair (.int k) v))) = v.isAgg from rfl, flat_at (f := entCells v.isAgg) hl he] at this
  exact ent_cells.2 ⟨this, (h2 i e he').2.2⟩
theorem map_lies {k : IntKind} {v : Ty} {g o : Nat} {arr : Array MapEntry} {xs : List (Unit × Int × v.den)} (h : w.heap[g]? = some (.map arr arr.size)) (hr : MapR F w k v arr xs) : ∃ cells, Lies (.mpe k v) w g o cells ∧ RowC (RepC F w (.mpe k v)) (Ty.mpe k v).size xs cells := by
  obtain ⟨hb, ha⟩ := hr
  have hl : ∀ e ∈ arr.toList, (entCells v.isAgg e).length = (Ty.mpe k v).size := fun e he => by
    obtain ⟨i, hi⟩ := List.getElem?_of_mem he
    obtain ⟨x, _, h⟩ := ha.get hi
    exact ent_len h
  refine ⟨(arr.toList.map (entCells v.isAgg)).flatten, ?_, ?_, fun i x hx => ?_⟩
  · simp only [Lies, Ty.isMp]
    refine ⟨arr, h, fun i e he => ?_, rfl⟩
    have he' : arr.toList[i]? = some e := by rwa [Array.getElem?_toList]
    obtain ⟨x, _, h⟩ := ha.get he'
    exact ⟨hb i e he, ent_len h, (ent_cells.1 h).2⟩
  · rw [flat_len hl, ha.length]
  · obtain ⟨e, he, h⟩ := ha.getR hx
    rw [flat_at hl he]
    exact (ent_cells.1 h).1
/-! What is found. -/
theorem find_ok {k : IntKind} {v : Ty} {m : Int} : ∀ {l : List MapEntry} {xs : List (Unit × Int × v.den)} (j : Nat), All2 (EntR F w k v) l xs →
    (mhas xs m = false ∧ Instr.findNow (.int k) (.int k m) l j = some none ∧ (∀ d, mget d xs m = d) ∧ ∀ y, mset xs m y = xs ++ [((), m, y)]) ∨
    (mhas xs m = true ∧ ∃ i e x, l[i]? = some e ∧ xs[i]? = some x ∧ EntR F w k v e x ∧ x.2.1 = m ∧ Instr.findNow (.int k) (.int k m) l j = some (some (j + i, e.val)) ∧ (∀ d, mget d xs m = x.2.2) ∧ ∀ y, mset xs m y = xs.set i ((), m, y))
  | [], _, j, .nil => .inl ⟨rfl, rfl, fun _ => rfl, fun _ => rfl⟩
  | e :: l, _, j, @All2.cons _ _ _ _ x _ xs h t => by
    have hk := h.1
    by_cases hx : x.2.1 = m
    · refine .inr ⟨by simp [mhas, hx], 0, e, x, rfl, rfl, h, hx, ?_, fun d => by simp [mget, hx], fun y => by simp [mset, hx]⟩
      simp [Instr.findNow, hk, Instr.sameNow, hx]
    · have hne : (m == x.2.1) = false := by simp; exact fun e => hx e.symm
      rcases find_ok (j + 1) t with ⟨h1, h2, h3, h4⟩ | ⟨h1, i, e', x', a1, a2, a3, a4, a5, a6, a7⟩
      · refine .inl ⟨by simp [mhas, hx] at h1 ⊢; exact h1, ?_, fun d => by simp [mget, hx, h3], fun y => by simp [mset, hx, h4]⟩
        simp only [Instr.findNow, hk, Instr.sameNow, if_true, hne]
        exact h2
      · refine .inr ⟨by simp [mhas, hx] at h1 ⊢; exact h1, i + 1, e', x', by simpa using a1, by simpa using a2, a3, a4, ?_, fun d => by simp [mget, hx, a6], fun y => by simp [mset, hx, a7]⟩
        simp only [Instr.findNow, hk, Instr.sameNow, if_true, hne]
        rw [a5]
        congr 3
        omega
theorem run_checkKey {b : Bool} {kt : TypeId} {k : IntKind} {m : Int} (h : P.underlying kt = some (.int k)) : (Instr.checkKey b 10000 kt (.int k m)).run P w = .ok () w := by
  show (Instr.checkKey b (9999 + 1) kt (.int k m)).run P w = _
  unfold Instr.checkKey
  simp [run_underlying h]
theorem run_findKey {kt : TypeId} {k : IntKind} {m : Int} (h : P.underlying kt = some (.int k)) {l : List MapEntry} {r : Option (Nat × Value)} (hf : Instr.findNow (.int k) (.int k m) l 0 = some r) : (Instr.findKey kt (.int k m) l).run P w = .ok r w := by
  simp [Instr.findKey, run_underlying h, hf]
theorem run_getObj {g n : Nat} {x : Array MapEntry} (h : w.heap[g]? = some (.map x n)) : (getObj g).run P w = .ok (.map x n) w := by
  simp [getObj, Sem.run, h]
/-- A map behind its value. -/
def MapAt (F : Nat → Prop) (w : World) (k : IntKind) (v : Ty) (u : Value) (xs : List (Unit × Int × v.den)) : Prop :=
  (u = .map none ∧ xs = []) ∨ ∃ g arr, u = .map (some g) ∧ w.heap[g]? = some (.map arr arr.size) ∧ MapR F w k v arr xs
theorem rep_map {k : IntKind} {v : Ty} {u : Value} {xs : List (Unit × Int × v.den)} (hr : RepC F w (.sl (.mpe k v)) xs [u]) : MapAt F w k v u xs := by
  obtain ⟨A, cap, h1, h2, h3⟩ := hr
  have hu : u = .map (A.map (·.block)) := by simpa [hdr, Ty.isMp] using h1
  rcases h3 with ⟨rfl, h4⟩ | ⟨g, o, cells, rfl, hF, hrow, hl⟩
  · have hA : A = none := h4 rfl
    subst hA hu
    exact .inl ⟨rfl, rfl⟩
  · obtain ⟨arr, ha, hm⟩ := lies_map hl hrow
    exact .inr ⟨g, arr, hu, ha, hm⟩
theorem own_map {k : IntKind} {v : Ty} {e : TypeId} {c : Nat} {u : Value} {xs : List (Unit × Int × v.den)} {cells : List Value} (ho : OwnsT (.mpe k v) w e u c cells) (hrow : RowC (RepC F w (.mpe k v)) (Ty.mpe k v).size xs cells) : ∃ g arr, u = .map (some g) ∧ w.heap[g]? = some (.map arr arr.size) ∧ MapR F w k v arr xs := by
  simp only [OwnsT, Ty.isMp] at ho
  obtain ⟨g, h1, h2⟩ := ho
  obtain ⟨arr, ha, hm⟩ := lies_map h2 hrow
  exact ⟨g, arr, h1, ha, hm⟩
/-- What a key has. -/
theorem run_lookup {t kt vt : TypeId} {k : IntKind} {v : Ty} {i : TypeInfo} {z : Value} {m : Int} {ok : Bool} (ht : P.underlying t = some (.map kt vt)) (mk : MOk P kt vt k v i z) {u : Value} {xs : List (Unit × Int × v.den)} (hr : MapAt F w k v u xs) :
    ∃ x, (Instr.lookup t u (.int k m) ok).run P w = .ok (if ok then .tuple #[x, .bool (mhas xs m)] else x) w ∧ ValR F w v x (mget v.dflt xs m) := by
  have hz : ValR F w v z v.dflt := by
    have := mk.form
    unfold ValR
    cases hv : v.isAgg with
    | true =>
      simp only [hv] at this ⊢
      obtain ⟨a, h1, h2⟩ := this
      exact ⟨a, h1, h2 F w⟩
    | false =>
      simp only [hv] at this ⊢
      exact this F w
  rcases hr with ⟨hu, rfl⟩ | ⟨g, arr, hu, ha, hm⟩
  · subst hu
    refine ⟨z, ?_, hz⟩
    simp [Instr.lookup, run_underlying ht, run_checkKey (m := m) mk.key, run_findKey (l := []) (r := none) (m := m) mk.key rfl, run_zero mk.info mk.zero, mhas]
    try (split <;> simp)
  · subst hu
    rcases find_ok (m := m) 0 hm.2 with ⟨e1, e2, e3, _⟩ | ⟨e1, j, e, x, a1, a2, a3, a4, a5, a6, _⟩
    · refine ⟨z, ?_, by rw [e3]; exact hz⟩
      simp [Instr.lookup, run_underlying ht, run_checkKey (m := m) mk.key, run_getObj ha, run_findKey (m := m) mk.key e2, run_zero mk.info mk.zero, e1]
      try (split <;> simp)
    · refine ⟨e.val, ?_, by rw [a6]; exact a3.2⟩
      simp [Instr.lookup, run_underlying ht, run_checkKey (m := m) mk.key, run_getObj ha, run_findKey (m := m) mk.key a5, e1]
      try (split <;> simp)
theorem val_av {v : Ty} {x : Value} {y : v.den} (h : ValR F w v x y) {q : AV} (hq : mkAV v.isAgg (flat v y) = some q) : RepA F w β G q x := by
  unfold ValR at h
  cases hv : v.isAgg with
  | true =>
    simp only [hv, mkAV, if_true, Option.some.injEq] at h hq
    obtain ⟨a, rfl, h⟩ := h
    subst hq
    exact ⟨a, rfl, rep_flat h⟩
  | false =>
    simp only [hv, mkAV] at h hq
    simp at hq
    split at hq
    · rename_i c hc
      injection hq with hq
      subst hq
      have := rep_flat (β := β) (H := G) h
      rw [hc] at this
      cases this with
      | cons r _ => exact r
    · simp at hq
theorem val_tup {v : Ty} {x : Value} {y : v.den} (h : ValR F w v x y) {b : Bool} : RepA F w β G (.tup [(v.isAgg, flat v y), (false, [.bool b])]) (.tuple #[x, .bool b]) := by
  refine ⟨_, rfl, .cons ?_ (.cons ⟨_, rfl, rfl⟩ .nil)⟩
  unfold ValR at h
  cases hv : v.isAgg with
  | true =>
    simp only [hv] at h ⊢
    obtain ⟨a, h1, h⟩ := h
    exact ⟨a, h1, rep_flat h⟩
  | false =>
    simp only [hv] at h ⊢
    have := rep_flat (β := β) (H := G) h
    cases hf : flat v y with
    | nil => rw [hf] at this; cases this
    | cons c r =>
      rw [hf] at this
      cases this with
      | cons r1 r2 =>
        cases r2
        exact ⟨c, rfl, r1⟩
theorem find_born {i : Nat} : ∀ {l : List MapEntry} {b : Nat}, (∀ (j : Nat) (e : MapEntry), l[j]? = some e → e.born = b + j) → b ≤ i → l.find? (fun e => e.born == i) = l[i - b]?
  | [], b, _, _ => by simp
  | e :: l, b, h, hi => by
    have h0 := h 0 e rfl
    by_cases hb : b = i
    · subst hb
      rw [List.find?_cons_of_pos (by simp; omega)]
      simp
    · rw [List.find?_cons_of_neg (by simp; omega), find_born (l := l) (b := b + 1) (fun j x hx => by have := h (j + 1) x (by simpa using hx); omega) (by omega), show i - b = (i - (b + 1)) + 1 by omega]
      simp
section ops
variable (p : Pre L w0 w F0 F β H G n sl) (hE : ∀ x ∈ o.op.operands, OpOk F w β G env a x) (cx : CtxOk P C)
include p hE cx
theorem row_map {c : CV} {u : Value} {k : IntKind} {v : Ty} {xs : List (Unit × Int × v.den)} (hr : RepV F w β G c u) (h : rowOf H c = some ⟨.mpe k v, xs⟩) : MapAt F w k v u xs := by
  unfold rowOf at h
  split at h
  · injection h with h
    injection h with h1 h2
    subst h1
    simp at h2
    subst h2
    exact rep_map hr
  · split at h
    · rename_i l e t xs' hs
      injection h with h
      injection h with h1 h2
      subst h1
      simp at h2
      subst h2
      have hG := p.slot hs (by simp)
      simp only [RepV, hG] at hr
      have ok := p.good.slot hr.1 hG
      cases l with
      | false => exact rep_map ok
      | true =>
        obtain ⟨⟨cells, ho, hrow⟩, _⟩ := ok
        obtain ⟨g, arr, h⟩ := own_map ho hrow
        exact .inr ⟨g, arr, h⟩
    · simp at h
  · split at h
    · rename_i l e t xs' hs
      injection h with h
      injection h with h1 h2
      subst h1
      have hG := p.slot hs (by simp)
      simp only [RepV, hG, Ty.isMp] at hr
      simp at hr
    · simp at h
  · simp at h
theorem q_lookup {t : TypeId} {x ix : Operand} {ok : Bool} {T : Ty} {c : CV} {k' : IntKind} {m : Int} {r : (t : Ty) × List t.den} (ho : o.op = .lookup t x ix ok) (hT : C.ty t = some T) (h1 : oprC env x = some c) (h2 : oprC env ix = some (.int k' m)) (h3 : rowOf H c = some r) (h4 : T = .sl r.1) (h5 : lookM ok k' m r.1 r.2 = some v) (hsl : sl = []) : QPost P (Bs L w0) F w β G n o a v sl := by
  subst hsl h4
  rcases r with ⟨t', xs⟩
  simp only at hT h3 h5
  obtain ⟨d, i, z, tk⟩ := cx.ty _ _ hT
  have r1 := (hE x (by rw [ho]; simp [Op.operands])).cell h1
  have e2 : a.eval ix = .int k' m := (hE ix (by rw [ho]; simp [Op.operands])).cell h2
  unfold lookM at h5
  split at h5
  case h_2 => simp at h5
  rename_i k v0
  split at h5
  case isFalse => simp at h5
  rename_i hk
  subst hk
  obtain ⟨kt, vt, i', z', hd, mk⟩ := tk.mp _ _ rfl
  have hm := row_map p hE cx r1 h3
  obtain ⟨x', hrun, hv⟩ := run_lookup (ok := ok) (m := m) (by rw [← hd]; exact tk.und) mk hm
  cases ok with
  | false =>
    exact QPost.pure (v' := x') (by simp [execOp, ho, e2]; rw [hrun]; rfl) (val_av hv h5) _
  | true =>
    simp at h5
    subst h5
    exact QPost.pure (v' := .tuple #[x', .bool (mhas _ m)]) (by simp [execOp, ho, e2]; rw [hrun]; rfl) (val_tup hv) _
theorem q_entry {x : Operand} {h : Nat} {k : IntKind} {v0 : Ty} {es : List (Unit × Int × v0.den)} {seen : List Nat} (ho : o.op = .entry x) (h1 : oprC env x = some (.ref h)) (hs : slotAt H h = .iter k v0 es seen) (hne : seen.isEmpty = false) (hv : v = .tup [(false, [.int k (cur v0.dflt es seen).2.1]), (v0.isAgg, flat v0 (cur v0.dflt es seen).2.2)]) (hsl : sl = []) : QPost P (Bs L w0) F w β G n o a v sl := by
  subst hsl hv
  have r1 := (hE x (by rw [ho]; simp [Op.operands])).cell h1
  have hG := p.slot hs (by simp)
  simp only [RepV, hG] at r1
  obtain ⟨gi, g, arr, a1, a2, a3, a4, a5, a6, ⟨a7, a7'⟩, a8⟩ := p.good.slot r1.1 hG
  have hnn : seen ≠ [] := by intro e; subst e; simp at hne
  have hlast : seen.getLast? = some (seen.getLast hnn) := List.getLast?_eq_some_getLast hnn
  have hi := a8 _ (List.getLast_mem hnn)
  have he : arr.toList[seen.getLast hnn]? = some arr[seen.getLast hnn] := by rw [Array.getElem?_toList]; simp [hi]
  obtain ⟨y, hy, hk, hval⟩ := a7'.get he
  have hcur : cur v0.dflt es seen = y := by
    unfold cur
    rw [List.getLastD_eq_getLast?, hlast]
    simp [List.getD_eq_getElem?_getD, hy]
  have hfind : arr.find? (fun e => e.born == seen.getLast hnn) = some arr[seen.getLast hnn] := by
    rw [← Array.find?_toList, find_born (b := 0) (fun j e h => by rw [Array.getElem?_toList] at h; have := a7 j e h; omega) (Nat.zero_le _), Nat.sub_zero, he]
  rw [hcur]
  refine QPost.pure (v' := .tuple #[arr[seen.getLast hnn].key, arr[seen.getLast hnn].val]) ?_ ?_ _
  · simp [execOp, ho, a1, Instr.entry, getObj, Sem.run, a4, a6, hlast, hfind]
  · rw [hk]
    refine ⟨_, rfl, .cons ⟨_, rfl, rfl⟩ (.cons ?_ .nil)⟩
    unfold ValR at hval
    cases hv : v0.isAgg with
    | true =>
      simp only [hv] at hval ⊢
      obtain ⟨b, e1, e2⟩ := hval
      exact ⟨b, e1, rep_flat e2⟩
    | false =>
      simp only [hv] at hval ⊢
      have := rep_flat (β := β) (H := G) hval
      cases hf : flat v0 y.2.2 with
      | nil => rw [hf] at this; cases this
      | cons c r =>
        rw [hf] at this
        cases this with
        | cons r1 r2 =>
          cases r2
          exact ⟨c, rfl, r1⟩
theorem q_makeMap {t : TypeId} {e : Ty} (ho : o.op = .makeMap t none) (hT : C.ty t = some (.sl e)) (hm : e.isMp = true) (hv : v = .one (.ref n)) (hsl : sl = [.row true (C.el e) e []]) : QPost P (Bs L w0) F w β G n o a v sl := by
  subst hv hsl
  have hrun : (execOp a.eval o).run P w = .ok (.value (.map (some w.heap.size))) (w.alloc (.map #[] 0)) := by
    simp [execOp, ho, Instr.makeMap, newObj, Sem.run]
  refine ⟨_, _, [.map (some w.heap.size)], hrun, rfl, ⟨below_alloc' _, fun h => by simp at h⟩, fun q u g hu hg => ?_, fun β' hb hβ => ?_⟩
  · cases q with
    | zero => simp at hu; subst hu; simp [blk] at hg; subst hg; exact ⟨rfl, Nat.le_refl _, by simp⟩
    | succ q => simp at hu
  · have hG := p.new 0 _ rfl
    have h0' := hβ 0 _ rfl
    rw [Nat.add_zero] at hG h0'
    refine ⟨fun q s u hs hu => ?_, ?_⟩
    · cases q with
      | zero =>
        simp at hs hu
        subst hs hu
        refine ⟨⟨[], ?_, by simp, fun i x h => by simp at h⟩, fun g hg => ?_⟩
        · simp only [OwnsT, hm]
          refine ⟨_, rfl, ?_⟩
          simp only [Lies, hm]
          exact ⟨#[], alloc_at _, fun i e h => by simp at h, by simp⟩
        · simp [blk] at hg
          subst hg
          exact ⟨.inl p.good.below.size, not_F p⟩
      | succ q => simp at hs
    · simp only [RepA, RepV, hG]
      exact ⟨h0', rfl⟩
end ops
end
end Go.Proofs.Ytanpdkllnmeenaa.Am

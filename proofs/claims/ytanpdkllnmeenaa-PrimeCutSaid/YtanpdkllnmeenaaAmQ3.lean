/- The quiet operations: slices. -/
import Derived.Test.YtanpdkllnmeenaaAmQ2
namespace Go.Proofs.Ytanpdkllnmeenaa.Am
open Go Go.RowKit
set_option linter.unusedVariables false
set_option linter.unusedSectionVars false
set_option linter.unusedSimpArgs false
section
variable {P : Program} {C : Ctx} {F : Nat → Prop} {w : World} {β β' : Bd} {H G : Heap}
variable {L : Nat → Prop} {w0 : World} {F0 : Nat → Prop} {n : Nat} {sl : List Slot} {env : List AV} {a : Act} {o : Oper} {v : AV}
/-- What a row's handle is bound to. -/
theorem row_val {base : Nat → Prop} {live : Bool} {e : TypeId} {t : Ty} {xs : List t.den} {u : Value} (hm : t.isMp = false) (hs : SlotOk base F w β G (.row live e t xs) u) :
    ∃ A c, u = .slice A xs.length c ∧ xs.length ≤ c ∧ (xs = [] ∨ ∃ g o, A = some ⟨g, o, none⟩) := by
  cases live with
  | true =>
    obtain ⟨⟨cells, ho, hr⟩, _⟩ := hs
    rw [owns_sl hm] at ho
    obtain ⟨hl, h | ⟨g', o', cap, cur, hv, hh, hn, hm', hz, ht⟩⟩ := ho
    · exact ⟨none, 0, by rw [h.1, h.2], by omega, .inl (List.length_eq_zero_iff.1 h.2)⟩
    · exact ⟨_, _, hv, hn, .inr ⟨_, _, rfl⟩⟩
  | false =>
    obtain ⟨A, cap, h1, h2, h3⟩ := hs
    rw [hdr_sl hm] at h1
    simp at h1
    refine ⟨A, cap, h1, h2, h3.imp And.left fun ⟨g, o, cells, hA, _⟩ => ⟨g, o, hA⟩⟩
theorem madeCells_get {z : Array Value} {n j : Nat} (h : j < n) : (madeCells z n).toList[j]? = some (z[j % z.size]!) := by
  rw [Array.getElem?_toList]
  simp [madeCells, h]
theorem made_take {z : Array Value} {n m : Nat} (h : m ≤ n) : (madeCells z n).toList.take m = (madeCells z m).toList := by
  apply List.ext_getElem?
  intro j
  by_cases hj : j < m
  · rw [List.getElem?_take_of_lt hj, madeCells_get hj, madeCells_get (by omega)]
  · rw [List.getElem?_eq_none (by simp [size_madeCells]; omega), List.getElem?_eq_none (by simp [size_madeCells]; omega)]
theorem made_elem {z : Array Value} {k q : Nat} (h : q < k) : (((madeCells z (k * z.size)).toList.drop (q * z.size)).take z.size) = z.toList := by
  have hle : q * z.size + z.size ≤ k * z.size := by have := Nat.mul_le_mul_right z.size (show q + 1 ≤ k from h); rw [Nat.add_mul] at this; omega
  apply List.ext_getElem?
  intro j
  by_cases hj : j < z.size
  · rw [List.getElem?_take_of_lt hj, List.getElem?_drop, madeCells_get (by omega), Nat.add_comm, Nat.add_mul_mod_self_right, Nat.mod_eq_of_lt hj, Array.getElem?_toList]
    simp [hj]
  · rw [List.getElem?_eq_none (by simp [size_madeCells]; omega), List.getElem?_eq_none (by simp; omega)]
def BndIs (env : List AV) : Option Operand → Option Int → Prop
  | none, r => r = none
  | some b, r => ∃ k i, oprC env b = some (.int k i) ∧ r = some i
/-- How a slice stands: its type of elements, and its length. -/
def sliceIs (H : Heap) (t : Ty) (m : Nat) : CV → Prop
  | .vsl t' xs => t' = t ∧ m = xs.length
  | .ref h => match slotAt H h with | .row _ _ t' xs => t' = t ∧ m = xs.length | _ => False
  | .sub h _ l => match slotAt H h with | .row _ _ t' _ => t' = t ∧ m = l | _ => False
  | _ => False
section ops
variable (p : Pre L w0 w F0 F β H G n sl) (hE : ∀ x ∈ o.op.operands, OpOk F w β G env a x) (cx : CtxOk P C)
include p hE cx
/-- A slice: its length, how it is bound, and its elements' places. -/
theorem slice_of {c : CV} {t : Ty} {m : Nat} {u : Value} (hm : t.isMp = false) (r : RepV F w β G c u) (h : sliceIs H t m c) : ∃ A k, u = .slice A m k ∧ m ≤ k ∧ (m = 0 ∨ ∃ g o, A = some ⟨g, o, none⟩) := by
  cases c <;> simp only [sliceIs] at h
  · rename_i t' xs
    obtain ⟨rfl, rfl⟩ := h
    obtain ⟨A, cap, h1, h2, h3⟩ := r
    rw [hdr_sl hm] at h1
    simp at h1
    exact ⟨A, cap, h1, h2, h3.imp (fun e => by simp [e.1]) fun ⟨g, o, cells, hA, _⟩ => ⟨g, o, hA⟩⟩
  · rename_i hh
    split at h
    · rename_i l e t' xs hs
      obtain ⟨rfl, rfl⟩ := h
      have hG := p.slot hs (by simp)
      simp only [RepV, hG] at r
      obtain ⟨A, k, hu, hk, hA⟩ := row_val hm (p.good.slot r.1 hG)
      exact ⟨A, k, hu, hk, hA.imp (fun e => by simp [e]) id⟩
    · exact h.elim
  · rename_i hh o l
    split at h
    · rename_i lv e t' xs hs
      obtain ⟨rfl, rfl⟩ := h
      have hG := p.slot hs (by simp)
      simp only [RepV, hG] at r
      obtain ⟨h1, A, c, h2, h3, h4, _⟩ := r
      exact ⟨A, c, h2, h3, h4.imp id fun ⟨g, q, n, k, _, e⟩ => ⟨g, _, e⟩⟩
    · exact h.elim
theorem q_indexAddr {ty : TypeId} {x ix : Operand} {c q : CV} {k : IntKind} {i : Int} {m : Nat} {t : Ty} (ho : o.op = .indexAddr ty x ix) (hT : C.ty ty = some (.sl t)) (hmp : t.isMp = false) (h1 : oprC env x = some c) (h2 : oprC env ix = some (.int k i))
    (h3 : sliceIs H t m c) (h0 : 0 ≤ i) (hm : i < (m : Int))
    (h4 : ∀ u : Value, RepV F w β G c u → ∀ k g o, u = .slice (some ⟨g, o, none⟩) m k → RepV F w β G q (.pointer (some ⟨g, o + i.toNat * t.size, none⟩))) (hv : v = .one q) (hsl : sl = []) : QPost P (Bs L w0) F w β G n o a v sl := by
  subst hv hsl
  obtain ⟨d, i', z, tk⟩ := cx.ty _ _ hT
  obtain ⟨hd, ie, ze, ek⟩ := tk.sl _ rfl hmp
  subst hd
  have r := (hE x (by rw [ho]; simp [Op.operands])).cell h1
  have ei : a.eval ix = .int k i := (hE ix (by rw [ho]; simp [Op.operands])).cell h2
  obtain ⟨A, cp, hu, hle, hA⟩ := slice_of p hE cx hmp r h3
  rcases hA with hA | ⟨g, off, hA⟩
  · omega
  subst hA
  have hsz : (sizeOf (C.el t)).run P w = .ok t.size w := by simp [sizeOf, run_typeInfo w ek.info, ek.size]
  refine QPost.pure1 ?_ (h4 _ r _ _ _ hu) _
  have hadd : (⟨g, off, none⟩ : Addr).add (i.toNat * t.size) = ⟨g, off + i.toNat * t.size, none⟩ := Addr.add_mid ..
  simp [execOp, ho, hu, ei, Instr.indexAt, asIntOf, run_underlying tk.und, h0, hm, hsz, hadd]
theorem q_len {T : Ty} {x : Operand} {ty : TypeId} {args : Array Operand} {ats : Array TypeId} {c : CV} {m : Int} (ho : o.op = .call { callee := .builtin .len, args, argTypes := ats }) (ha : args[0]? = some x) (hty : ats[0]? = some ty) (hT : C.ty ty = some T) (h1 : oprC env x = some c) (h2 : lenOf T H c = some m) (hv : v = .one (.int .i64 m)) (hsl : sl = []) : QPost P (Bs L w0) F w β G n o a v sl := by
  subst hv hsl
  obtain ⟨d, i', z, tk⟩ := cx.ty _ _ hT
  have hx : x ∈ o.op.operands := by
    rw [ho]
    simp [Op.operands, Call.operands]
    exact Array.mem_of_getElem? ha
  have r := (hE x hx).cell h1
  have e0 : (args.map a.eval)[0]? = some (a.eval x) := by simp [ha]
  have key : (∃ s, T = .str ∧ a.eval x = .string s ∧ m = s.size) ∨ (∃ t A k, T = .sl t ∧ t.isMp = false ∧ a.eval x = .slice A m.toNat k ∧ 0 ≤ m) := by
    unfold lenOf at h2
    split at h2
    · injection h2 with h2
      exact .inl ⟨_, rfl, r, h2.symm⟩
    · rename_i t h o l
      split at h2
      · rename_i hs
        split at h2
        · simp at h2
        rename_i hmp
        injection h2 with h2
        subst h2
        have hG := p.slot hs (by simp)
        simp only [RepV, hG] at r
        obtain ⟨_, A, k, hv, _⟩ := r
        exact .inr ⟨t, A, k, rfl, hmp, by simpa using hv, by omega⟩
      · simp at h2
    · rename_i t c' hns
      simp only [Option.bind_eq_some_iff] at h2
      obtain ⟨⟨t', xs⟩, h2, h3⟩ := h2
      split at h3
      · simp at h3
      rename_i hmp
      split at h3
      · simp at h3
      rename_i hm'
      injection h3 with h3
      subst h3
      simp only at hm'
      unfold rowOf at h2
      split at h2
      · injection h2 with h2
        injection h2 with e1 e2
        subst e1
        simp at e2
        subst e2
        obtain ⟨A, cap, h1, _⟩ := r
        rw [hdr_sl hm'] at h1
        simp at h1
        exact .inr ⟨_, A, cap, rfl, hmp, by simpa using h1, by omega⟩
      · split at h2
        · rename_i hs
          injection h2 with h2
          injection h2 with e1 e2
          subst e1
          simp at e2
          subst e2
          have hG := p.slot hs (by simp)
          simp only [RepV, hG] at r
          obtain ⟨A, k, hu, _⟩ := row_val hm' (p.good.slot r.1 hG)
          exact .inr ⟨_, A, k, rfl, hmp, by simpa using hu, by omega⟩
        · simp at h2
      · exact (hns _ _ _ rfl).elim
      · simp at h2
    · simp at h2
  rcases key with ⟨s, rfl, hx, rfl⟩ | ⟨t, A, k, rfl, hmp, hx, hm⟩
  · have hd := tk.str rfl
    subst hd
    refine QPost.pure1 (v' := .int .i64 s.size) ?_ (by simp [RepV]) _
    simp [execOp, ho, resolve, invoke, builtin, Builtin.len_, hty, e0, hx, run_underlying tk.und, goInt]
  · obtain ⟨hd, _⟩ := tk.sl _ rfl hmp
    subst hd
    refine QPost.pure1 (v' := .int .i64 m) ?_ (by simp [RepV]) _
    simp [execOp, ho, resolve, invoke, builtin, Builtin.len_, hty, e0, hx, run_underlying tk.und, goInt]
    omega
theorem q_slice {ty : TypeId} {x : Operand} {lo hi : Option Operand} {lo' hi' : Option Int} {c q : CV} {m : Nat} {t : Ty} (ho : o.op = .slice ty x lo hi none) (hT : C.ty ty = some (.sl t)) (hmp : t.isMp = false) (h1 : oprC env x = some c)
    (hlo : BndIs env lo lo') (hhi : BndIs env hi hi')
    (h3 : sliceIs H t m c) (h0 : chkS lo' hi' m = true)
    (h4 : ∀ u : Value, RepV F w β G c u → ∀ A k, u = .slice A m k → m ≤ k → RepV F w β G q (.slice (if k = (lo'.getD 0).toNat then A else A.map (·.add ((lo'.getD 0).toNat * t.size))) ((hi'.getD m).toNat - (lo'.getD 0).toNat) (k - (lo'.getD 0).toNat))) (hv : v = .one q) (hsl : sl = []) : QPost P (Bs L w0) F w β G n o a v sl := by
  subst hv hsl
  obtain ⟨d, i', z, tk⟩ := cx.ty _ _ hT
  obtain ⟨hd, ie, ze, ek⟩ := tk.sl _ rfl hmp
  subst hd
  have r := (hE x (by rw [ho]; simp [Op.operands])).cell h1
  obtain ⟨A, cp, hu, hle, hA⟩ := slice_of p hE cx hmp r h3
  have hsz : (sizeOf (C.el t)).run P w = .ok t.size w := by simp [sizeOf, run_typeInfo w ek.info, ek.size]
  refine QPost.pure1 ?_ (h4 _ r _ _ hu hle) _
  have hr : (execOp a.eval o).run P w = ((Instr.sliceAt ty (a.eval x) (lo.map a.eval) (hi.map a.eval) none).run P w).andThen fun v w => .ok (.value v) w := by
    simp [execOp, ho]
  rw [hr, hu]
  have hb : (Instr.sliceBounds true m cp (lo.map a.eval) (hi.map a.eval) none).run P w = .ok ((lo'.getD 0).toNat, (hi'.getD m).toNat, cp) w := by
    cases lo with
    | none =>
      have hlo : lo' = none := hlo
      subst hlo
      cases hi with
      | none =>
        have hhi : hi' = none := hhi
        subst hhi
        simp [Instr.sliceBounds]
      | some b =>
        obtain ⟨k, i, hb, rfl⟩ := hhi
        have eb : a.eval b = .int k i := (hE b (by rw [ho]; simp [Op.operands])).cell hb
        simp [chkS] at h0
        have e1 : i ≤ (cp : Int) := by omega
        simp [Instr.sliceBounds, eb, Instr.sliceBound, asIntOf, h0.1, e1]
    | some b =>
      obtain ⟨k, i, hb, rfl⟩ := hlo
      have eb : a.eval b = .int k i := (hE b (by rw [ho]; simp [Op.operands])).cell hb
      cases hi with
      | none =>
        have hhi : hi' = none := hhi
        subst hhi
        simp [chkS] at h0
        simp [Instr.sliceBounds, eb, Instr.sliceBound, asIntOf, h0.1, h0.2]
      | some b2 =>
        obtain ⟨k2, i2, hb2, rfl⟩ := hhi
        have eb2 : a.eval b2 = .int k2 i2 := (hE b2 (by rw [ho]; simp [Op.operands])).cell hb2
        simp [chkS] at h0
        have e0 : 0 ≤ i2 := by omega
        have e1 : i2 ≤ (cp : Int) := by omega
        have e2 : (i2.toNat : Int) = i2 := by omega
        simp [Instr.sliceBounds, eb, eb2, Instr.sliceBound, asIntOf, h0.1, h0.2, e0, e1, e2]
  simp [Instr.sliceAt, run_underlying tk.und, Instr.slice, hb, hsz]
/-- A new array. -/
theorem q_allocArr {e : TypeId} {q : Nat × Ty} (ho : o.op = .alloc e) (ht : C.arr e = some q) (hv : v = .one (.ptr n 0 0)) (hsl : sl = [.row true e q.2 (List.replicate q.1 q.2.dflt)]) : QPost P (Bs L w0) F w β G n o a v sl := by
  subst hv hsl
  obtain ⟨m, t⟩ := q
  obtain ⟨el, i, ie, z, ak⟩ := cx.arr _ _ _ ht
  have hmax := ak.max
  have hr : (execOp a.eval o).run P w = .ok (.value (.pointer (some ⟨w.heap.size, 0, none⟩))) (w.alloc (.cells z.cells e)) := by
    simp [execOp, ho, Instr.alloc, run_zero ak.info ak.zero, run_newVar]
  refine ⟨_, _, [.slice (some ⟨w.heap.size, 0, none⟩) m m], hr, rfl, ⟨below_alloc' _, fun h => by simp at h⟩, fun q u g hu hg => ?_, fun β' hb hβ => ?_⟩
  · cases q with
    | zero => simp at hu; subst hu; simp [blk] at hg; subst hg; exact ⟨rfl, Nat.le_refl _, by simp⟩
    | succ q => simp at hu
  · have hG := p.new 0 _ rfl
    have h0' := hβ 0 _ rfl
    rw [Nat.add_zero] at hG h0'
    refine ⟨fun q s u hs hu => ?_, ?_⟩
    · cases q with
      | zero =>
        simp at hs hu
        subst hs hu
        refine ⟨⟨z.cells.toList, (owns_sl ak.mp).2 (own_of ⟨by rw [Array.length_toList, ak.zsize, List.length_replicate], .inr ⟨w.heap.size, m, _, by rw [List.length_replicate], Nat.zero_le _, alloc_at _, by rw [List.length_replicate]; exact Nat.le_refl _, by simp [maxLen]; omega, by rw [ak.zsize], ?_⟩⟩), ak.rep F _⟩, fun g hg => ?_⟩
        · rw [List.length_replicate, ← ak.zsize, ← Array.length_toList, List.take_length]
        · simp [blk] at hg
          subst hg
          exact ⟨.inl p.good.below.size, not_F p⟩
      | succ q => simp at hs
    · simp only [RepA, RepV, RepPtr, hG]
      exact ⟨⟨ak.mp, by rw [List.length_replicate]; exact ak.pos⟩, _, _, _, _, h0', by simp⟩
/-- An array's place. -/
theorem q_indexArr {ty : TypeId} {x ix : Operand} {k : IntKind} {i : Int} {h : Nat} {lv : Bool} {e : TypeId} {t : Ty} {xs : List t.den} {m : Nat} (ho : o.op = .indexAddr ty x ix) (ht : C.arr ty = some (m, t)) (h1 : oprC env x = some (.ptr h 0 0)) (h2 : oprC env ix = some (.int k i)) (hs : slotAt H h = .row lv e t xs)
    (h0 : 0 ≤ i) (hm : i < (xs.length : Int)) (hm2 : i < (m : Int)) (hv : v = .one (.ptr h i.toNat 0)) (hsl : sl = []) : QPost P (Bs L w0) F w β G n o a v sl := by
  subst hv hsl
  obtain ⟨el, it, ie, z, ak⟩ := cx.arr _ _ _ ht
  have r := (hE x (by rw [ho]; simp [Op.operands])).cell h1
  have ei : a.eval ix = .int k i := (hE ix (by rw [ho]; simp [Op.operands])).cell h2
  have hG := p.slot hs (by simp)
  simp only [RepV, RepPtr, hG] at r
  obtain ⟨_, g, o', n', c', hb, hu⟩ := r
  have hsz : (sizeOf el).run P w = .ok t.size w := by simp [sizeOf, run_typeInfo w ak.elem, ak.size]
  refine QPost.pure1 (v' := .pointer (some ⟨g, o' + i.toNat * t.size, none⟩)) ?_ ?_ _
  · have hadd : (⟨g, o', none⟩ : Addr).add (i.toNat * t.size) = ⟨g, o' + i.toNat * t.size, none⟩ := Addr.add_mid ..
    have hu' : a.eval x = .pointer (some ⟨g, o', none⟩) := by rw [hu]; simp
    simp [execOp, ho, hu', ei, Instr.indexAt, asIntOf, run_underlying ak.und, Instr.sureAddr, h0, hm2, hsz, hadd]
  · simp only [RepV, RepPtr, hG]
    exact ⟨⟨ak.mp, by omega⟩, g, o', n', c', hb, by simp⟩
theorem q_makeSlice {ty : TypeId} {l c : Operand} {k1 k2 : IntKind} {i j : Int} {t : Ty} (ho : o.op = .makeSlice ty l c) (hT : C.ty ty = some (.sl t)) (hmp : t.isMp = false) (h1 : oprC env l = some (.int k1 i)) (h2 : oprC env c = some (.int k2 j))
    (h0 : 0 ≤ i) (hij : i ≤ j) (hj : j < 1099511627776) (hv : v = .one (.ref n)) (hsl : sl = [.row true (C.el t) t (List.replicate i.toNat t.dflt)]) : QPost P (Bs L w0) F w β G n o a v sl := by
  subst hv hsl
  obtain ⟨d, i', z', tk⟩ := cx.ty _ _ hT
  obtain ⟨hd, ie, z, ek⟩ := tk.sl _ rfl hmp
  subst hd
  have e1 : a.eval l = .int k1 i := (hE l (by rw [ho]; simp [Op.operands])).cell h1
  have e2 : a.eval c = .int k2 j := (hE c (by rw [ho]; simp [Op.operands])).cell h2
  have hb := ek.bytes
  have hr : (execOp a.eval o).run P w = .ok (.value (.slice (some ⟨w.heap.size, 0, none⟩) i.toNat j.toNat)) (w.alloc (.cells (madeCells z.cells (j.toNat * ie.size)) (C.el t))) := by
    have hbj : (ie.bytes : Int) * j ≤ 281474976710656 := by
      have : (ie.bytes : Int) * j ≤ 64 * j := Int.mul_le_mul_of_nonneg_right (by omega) (by omega)
      omega
    simp [execOp, ho, e1, e2, run_make w ty (C.el t) ie z tk.und ek.info ek.zero k1 k2 i j h0 hij hbj (by omega)]
  refine ⟨_, _, [.slice (some ⟨w.heap.size, 0, none⟩) i.toNat j.toNat], hr, rfl, ⟨below_alloc' _, fun h => by simp at h⟩, fun q u g hu hg => ?_, fun β' hb hβ => ?_⟩
  · cases q with
    | zero => simp at hu; subst hu; simp [blk] at hg; subst hg; exact ⟨rfl, Nat.le_refl _, by simp⟩
    | succ q => simp at hu
  · have hG := p.new 0 _ rfl
    have h0' := hβ 0 _ rfl
    rw [Nat.add_zero] at hG h0'
    refine ⟨fun q s u hs hu => ?_, ?_⟩
    · cases q with
      | zero =>
        simp at hs hu
        subst hs hu
        refine ⟨⟨(madeCells z.cells (i.toNat * t.size)).toList, (owns_sl hmp).2 (own_of ⟨by simp [size_madeCells], .inr ⟨w.heap.size, j.toNat, _, by simp, Nat.zero_le _, alloc_at _, by simp; omega, by simp [maxLen]; omega, by simp [size_madeCells, ek.size], ?_⟩⟩), ?_⟩, fun g hg => ?_⟩
        · rw [List.length_replicate, ek.size, made_take (Nat.mul_le_mul_right _ (by omega))]
        · refine ⟨by simp [size_madeCells], fun q x hq => ?_⟩
          have hlt := (List.getElem?_eq_some_iff.1 hq).1
          rw [List.length_replicate] at hlt
          rw [List.getElem?_replicate_of_lt hlt] at hq
          injection hq with hq
          subst hq
          have := made_elem (z := z.cells) hlt
          rw [ek.zsize] at this
          rw [this]
          exact ek.rep _ _
        · simp [blk] at hg
          subst hg
          exact ⟨.inl p.good.below.size, not_F p⟩
      | succ q => simp at hs
    · simp only [RepA, RepV, hG]
      exact ⟨h0', rfl⟩
end ops
end
end Go.Proofs.Ytanpdkllnmeenaa.Am

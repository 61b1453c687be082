/- The quiet operations: all. -/
import Derived.Test.YtanpdkllnmeenaaAmMap
namespace Go.Proofs.Ytanpdkllnmeenaa.Am
open Go Go.RowKit
set_option linter.unusedVariables false
set_option linter.unusedSectionVars false
set_option linter.unusedSimpArgs false
section
variable {P : Program} {C : Ctx} {F : Nat → Prop} {w : World} {β β' : Bd} {H G : Heap}
variable {L : Nat → Prop} {w0 : World} {F0 : Nat → Prop} {n : Nat} {sl : List Slot} {env : List AV} {a : Act} {o : Oper} {v : AV}
theorem intOf_some {c : CV} {q : IntKind × Int} (h : intOf c = some q) : c = .int q.1 q.2 := by
  cases c <;> simp [intOf] at h
  subst h; rfl
theorem toNat_lt {i : Int} {k : Nat} (h0 : 0 ≤ i) (h1 : i < (k : Int)) : i.toNat < k := by omega
theorem bound_ok {x : Option Operand} {r : Option Int} (h : bndQ env x = some r) : BndIs env x r := by
  cases x with
  | none => simp [bndQ] at h; exact h.symm
  | some b =>
    simp only [bndQ, Option.map_eq_some_iff, Option.bind_eq_some_iff] at h
    obtain ⟨q, ⟨c, h1, h2⟩, h3⟩ := h
    exact ⟨q.1, q.2, by rw [h1, intOf_some h2], h3.symm⟩
theorem cutS_eq {α : Type} {lo hi : Option Int} {xs : List α} (h : chkS lo hi xs.length = true) : cutS lo hi xs = (xs.drop (lo.getD 0).toNat).take ((hi.getD xs.length).toNat - (lo.getD 0).toNat) := by
  cases lo with
  | none =>
    cases hi with
    | none => simp [cutS]
    | some h => simp [cutS]
  | some l =>
    cases hi with
    | none => simp [cutS]; rw [List.take_of_length_le (by simp)]
    | some h => simp [cutS, List.drop_take]
theorem chk_le {lo hi : Option Int} {m : Nat} (h : chkS lo hi m = true) : (lo.getD 0).toNat ≤ (hi.getD m).toNat ∧ (hi.getD m).toNat ≤ m := by
  cases lo <;> cases hi <;> simp [chkS] at h ⊢ <;> omega
/-- A part of a slice. -/
theorem part_ok {t : Ty} (hm : t.isMp = false) {xs : List t.den} {A : Option Addr} {k l h : Nat} (r : RepC F w (.sl t) xs [.slice A xs.length k]) (h1 : l ≤ h) (h2 : h ≤ xs.length) :
    RepC F w (.sl t) ((xs.drop l).take (h - l)) [.slice (if k = l then A else A.map (·.add (l * t.size))) (h - l) (k - l)] := by
  obtain ⟨A', cap, e, hl, hr⟩ := r
  rw [hdr_sl hm] at e
  simp at e
  obtain ⟨rfl, rfl⟩ := e
  have hlen : ((xs.drop l).take (h - l)).length = h - l := by rw [List.length_take, List.length_drop]; omega
  refine ⟨_, _, by rw [hlen, hdr_sl hm], by omega, ?_⟩
  by_cases hz : h - l = 0
  · exact .inl ⟨List.length_eq_zero_iff.1 (by omega), fun h => by simp [hm] at h⟩
  · rcases hr with ⟨hr, _⟩ | ⟨g, o, cells, hA, hF, hrow, hrange⟩
    · subst hr; simp at h2; omega
    · rw [lies_sl hm] at hrange
      refine .inr ⟨g, o + l * t.size, _, ?_, hF, hrow.sub l (h - l), (lies_sl hm).2 (range_cut hrange _ _)⟩
      rw [if_neg (by omega), hA]
      simp [Addr.add_mid]
theorem q_binT (p : Pre L w0 w F0 F β H G n sl) (hE : ∀ x ∈ o.op.operands, OpOk F w β G env a x) (cx : CtxOk P C) {op : BinOp} {t t2 : TypeId} {x y : Operand} {c d q : CV} (ho : o.op = .binOp op t x y t2) (h1 : oprC env x = some c) (h2 : oprC env y = some d) (h3 : binT (C.ty t) op c d = some q) (hv : v = .one q) (hsl : sl = []) : QPost P (Bs L w0) F w β G n o a v sl := by
  subst hsl hv
  have hx := (hE x (by rw [ho]; simp [Op.operands])).cell h1
  have hy := (hE y (by rw [ho]; simp [Op.operands])).cell h2
  unfold binT at h3
  split at h3
  case h_5 => simp at h3
  · rename_i b b' hT
    injection h3 with h3
    subst h3
    obtain ⟨d', i, z, tk⟩ := cx.ty _ _ hT
    have hd := tk.bool rfl
    subst hd
    have ex : a.eval x = .bool b := hx
    have ey : a.eval y = .bool b' := hy
    refine QPost.pure1 (v' := .bool (b == b')) ?_ (by simp only [RepV]) _
    simp [execOp, ho, ex, ey, eqGuard, run_eql_bool w t b b' tk.und]
  · rename_i b b' hT
    injection h3 with h3
    subst h3
    obtain ⟨d', i, z, tk⟩ := cx.ty _ _ hT
    have hd := tk.bool rfl
    subst hd
    have ex : a.eval x = .bool b := hx
    have ey : a.eval y = .bool b' := hy
    refine QPost.pure1 (v' := .bool (!(b == b'))) ?_ (by simp only [RepV]) _
    simp [execOp, ho, ex, ey, eqGuard, run_neq_bool w t b b' tk.und]
  · rename_i b b' hT
    injection h3 with h3
    subst h3
    have ex : a.eval x = .string b := hx
    have ey : a.eval y = .string b' := hy
    refine QPost.pure1 (v' := .bool (b.toList == b'.toList)) ?_ (by simp only [RepV]) _
    simp [execOp, ho, ex, ey, eqGuard, binOp, Op.stringOp]
  · rename_i b b' hT
    injection h3 with h3
    subst h3
    have ex : a.eval x = .string b := hx
    have ey : a.eval y = .string b' := hy
    refine QPost.pure1 (v' := .bool (!(b.toList == b'.toList))) ?_ (by simp only [RepV]) _
    simp [execOp, ho, ex, ey, eqGuard, binOp, Op.stringOp]
theorem q_index (p : Pre L w0 w F0 F β H G n sl) (hE : ∀ x ∈ o.op.operands, OpOk F w β G env a x) (cx : CtxOk P C) {t : TypeId} {x ix : Operand} {s : ByteArray} {k : IntKind} {i : Int} (ho : o.op = .index t x ix) (hT : C.ty t = some .str) (h1 : oprC env x = some (.str s)) (h2 : oprC env ix = some (.int k i)) (h0 : 0 ≤ i) (hm : i < (s.size : Int)) (hv : v = .one (.int .u8 (byteAt s i.toNat))) (hsl : sl = []) : QPost P (Bs L w0) F w β G n o a v sl := by
  subst hsl hv
  have ex : a.eval x = .string s := (hE x (by rw [ho]; simp [Op.operands])).cell h1
  have ei : a.eval ix = .int k i := (hE ix (by rw [ho]; simp [Op.operands])).cell h2
  obtain ⟨d', i', z, tk⟩ := cx.ty _ _ hT
  have hd := tk.str rfl
  subst hd
  have hlt : i.toNat < s.size := by omega
  have hs : s[i.toNat]? = some s[i.toNat] := by simp [hlt]
  refine QPost.pure1 (v' := .int .u8 (s[i.toNat].toNat : Int)) ?_ (by simp [RepV, byteAt, hs]) _
  simp [execOp, ho, ex, ei, Instr.index, asIntOf, run_underlying tk.und, h0, hs]
theorem run_part1 {e : TypeId} {d : TypeDesc} (he : P.underlying e = some d) (hr : d.isRow = false) {xs : Array Value} {off : Nat} {v : Value} (hx : xs[off]? = some v) : (part e xs off).run P w = .ok v w := by
  have : (isAgg e).run P w = .ok false w := by
    simp only [isAgg, Sem.run_bind, run_underlying he, Result.andThen_ok, Sem.run_pure]
    cases d <;> simp [TypeDesc.isRow] at hr <;> rfl
  simp [part, this, hx]
theorem eqFields_ok : ∀ {T : List Ty} {fs : List Field} {n : Nat} {cs ds : List CV} {xs ys : Array Value} {q : Bool}, EqFs P fs T n → All2 (RepV F w β G) cs (xs.toList.drop n) → All2 (RepV F w β G) ds (ys.toList.drop n) → eqCs T cs ds = some q → (Op.eqFields 9999 xs ys fs).run P w = .ok q w
  | [], [], n, cs, ds, xs, ys, q, _, r1, r2, h => by
    unfold eqCs at h
    split at h <;> simp at *
    subst h
    simp [Op.eqFields]
  | [], f :: fs, n, cs, ds, xs, ys, q, hf, r1, r2, h => by simp [EqFs] at hf
  | t :: T, [], n, cs, ds, xs, ys, q, hf, r1, r2, h => by simp [EqFs] at hf
  | t :: T, f :: fs, n, cs, ds, xs, ys, q, hf, r1, r2, h => by
    obtain ⟨h1, h2, h3, h4⟩ := hf
    cases cs with
    | nil => cases t <;> simp [eqCs] at h
    | cons c cs =>
    cases ds with
    | nil => cases t <;> cases c <;> simp [eqCs] at h
    | cons d ds =>
    have hx0 : ∀ {zs : Array Value} {c : CV} {cs : List CV}, All2 (RepV F w β G) (c :: cs) (zs.toList.drop n) → ∃ v, zs[n]? = some v ∧ RepV F w β G c v ∧ All2 (RepV F w β G) cs (zs.toList.drop (n + 1)) := fun {zs c cs} r => by
      generalize hz : zs.toList.drop n = l at r
      cases r with
      | @cons _ v _ m r1 r2 =>
        have e0 : zs.toList[n]? = some v := by rw [← List.head?_drop, hz]; rfl
        refine ⟨v, by rwa [Array.getElem?_toList] at e0, r1, ?_⟩
        rw [← List.drop_drop, hz]
        exact r2
    obtain ⟨a, ha, ra, rr1⟩ := hx0 r1
    obtain ⟨b, hb, rb, rr2⟩ := hx0 r2
    subst h2
    have step : ∀ {e qq : Bool} {dd : TypeDesc}, P.underlying f.type = some dd → dd.isRow = false → (Op.equalIn 9999 f.type a b).run P w = .ok e w → eqCs T cs ds = some qq → (Op.eqFields 9999 xs ys (f :: fs)).run P w = .ok (e && qq) w := fun {e qq dd} hu hr he hq => by
      have ih := eqFields_ok h4 rr1 rr2 hq
      simp only [Op.eqFields, if_pos h1, Sem.run_bind, run_part1 (w := w) hu hr ha, run_part1 (w := w) hu hr hb, he, Result.andThen_ok, Sem.run_ite]
      cases e with
      | true => simp [ih]
      | false => simp
    cases t with
    | int k0 =>
      obtain ⟨k, hu⟩ := h3
      cases c <;> cases d <;> simp only [eqCs, reduceCtorEq] at h
      split at h
      case isFalse => simp at h
      rename_i hk
      subst hk
      simp only [Option.map_eq_some_iff] at h
      obtain ⟨qq, hq, rfl⟩ := h
      have ea : a = .int _ _ := ra
      have eb : b = .int _ _ := rb
      subst ea eb
      exact step hu rfl (run_equalIn_int w 9998 _ _ k _ _ hu) hq
    | bool =>
      cases c <;> cases d <;> simp only [eqCs, reduceCtorEq, Option.map_eq_some_iff] at h
      obtain ⟨qq, hq, rfl⟩ := h
      have ea : a = .bool _ := ra
      have eb : b = .bool _ := rb
      subst ea eb
      exact step h3 rfl (run_equalIn_bool' w 9998 _ _ _ h3) hq
    | str =>
      cases c <;> cases d <;> simp only [eqCs, reduceCtorEq, Option.map_eq_some_iff] at h
      obtain ⟨qq, hq, rfl⟩ := h
      have ea : a = .string _ := ra
      have eb : b = .string _ := rb
      subst ea eb
      exact step h3 rfl (run_equalIn_string w 9998 _ _ _ h3) hq
    | _ => exact h3.elim
theorem q_eqS (p : Pre L w0 w F0 F β H G n sl) (hE : ∀ x ∈ o.op.operands, OpOk F w β G env a x) (cx : CtxOk P C) {op : BinOp} {t t2 : TypeId} {x y : Operand} {u1 u2 : AV} {T : List Ty} {q : CV} (ho : o.op = .binOp op t x y t2) (hT : C.eqs t = some T) (h1 : opr env x = some u1) (h2 : opr env y = some u2) (h3 : eqS T op u1 u2 = some q) (hv : v = .one q) (hsl : sl = []) : QPost P (Bs L w0) F w β G n o a v sl := by
  subst hsl hv
  have hx := hE x (by rw [ho]; simp [Op.operands]) _ h1
  have hy := hE y (by rw [ho]; simp [Op.operands]) _ h2
  have ek := cx.eqs _ _ hT
  unfold eqS at h3
  split at h3
  case h_2 => simp at h3
  rename_i cs ds
  obtain ⟨xs, ex, rx⟩ := hx
  obtain ⟨ys, ey, ry⟩ := hy
  have key : ∀ {b : Bool}, eqCs T cs ds = some b → (Op.equalIn 10000 t (.agg xs) (.agg ys)).run P w = .ok b w := fun {b} hb => by
    rw [show (10000 : Nat) = 9999 + 1 from rfl, run_equalIn_agg w 9999 t xs ys ek.und ek.held]
    exact eqFields_ok ek.fields (by simpa using rx) (by simpa using ry) hb
  split at h3
  · simp only [Option.map_eq_some_iff] at h3
    obtain ⟨b, hb, rfl⟩ := h3
    refine QPost.pure1 (v' := .bool b) ?_ (by simp only [RepV]) _
    simp [execOp, ho, ex, ey, run_eqGuard_agg w _ _ _ _ _ _ ek.guard, run_eql_struct, key hb]
  · simp only [Option.map_eq_some_iff] at h3
    obtain ⟨b, hb, rfl⟩ := h3
    refine QPost.pure1 (v' := .bool (!b)) ?_ (by simp only [RepV]) _
    simp [execOp, ho, ex, ey, run_eqGuard_agg w _ _ _ _ _ _ ek.guard, run_neq_struct, key hb]
  · simp at h3
theorem slotAt_row {h : Nat} {s : Slot} (e : slotAt H h = s) (hs : s ≠ .dead) : H[h]? = some s := by
  unfold slotAt at e
  rw [List.getD_eq_getElem?_getD] at e
  cases hh : H[h]? with
  | none => rw [hh] at e; exact absurd e.symm hs
  | some s' => rw [hh] at e; simp at e; subst e; rfl
theorem opQ_ok (p : Pre L w0 w F0 F β H G n sl) (hE : ∀ x ∈ o.op.operands, OpOk F w β G env a x) (cx : CtxOk P C) (h : opQ C env H n o = some (true, v, sl)) : QPost P (Bs L w0) F w β G n o a v sl := by
  unfold opQ at h
  split at h
  · -- move
    rename_i x ho
    simp only [Option.map_eq_some_iff] at h
    obtain ⟨q, h1, h2⟩ := h
    simp at h2
    obtain ⟨rfl, rfl⟩ := h2
    exact q_move p hE cx (.inl ho) h1
  · rename_i x ho
    simp only [Option.map_eq_some_iff] at h
    obtain ⟨q, h1, h2⟩ := h
    simp at h2
    obtain ⟨rfl, rfl⟩ := h2
    exact q_move p hE cx (.inr ho) h1
  · -- alloc
    rename_i e ho
    split at h
    · rename_i q hq
      simp at h
      exact q_allocArr p hE cx ho hq h.1.symm h.2.symm
    simp only [Option.bind_eq_some_iff] at h
    obtain ⟨T, h1, h2⟩ := h
    have hv : v = .one (.ptr n 0 0) := by
      split at h2
      · simp at h2; exact h2.1.symm
      · simp at h2
    subst hv
    exact q_alloc p hE cx ho h1 h2
  · -- box
    rename_i e x ho
    simp only [Option.bind_eq_some_iff] at h
    obtain ⟨T, h1, q, h2, cs, h3, h4⟩ := h
    simp at h4
    obtain ⟨rfl, rfl⟩ := h4
    exact q_box p hE cx ho h2 h3 rfl
  · -- build
    rename_i t parts ho
    simp only [Option.bind_eq_some_iff] at h
    obtain ⟨fl, h0, T, h1, cs, h2, h3⟩ := h
    split at h3
    · rename_i cs' sl' he
      simp at h3
      obtain ⟨rfl, rfl⟩ := h3
      exact q_build p hE cx ho h0 h1 h2 he rfl
    · simp at h3
  · -- buildSlice
    rename_i t len parts ho
    split at h
    · rename_i e hT
      simp only [Option.bind_eq_some_iff] at h
      obtain ⟨xs, h1, h2⟩ := h
      split at h2
      · rename_i hl
        simp at h2
        exact q_buildSlice p hE cx ho hT hl.2 h1 hl.1 h2.1.symm h2.2.symm
      · simp at h2
    · simp at h
  · -- load
    rename_i t x ho
    simp only [Option.bind_eq_some_iff, Option.map_eq_some_iff] at h
    obtain ⟨T, h1, c, h2, cs, h3, v', h4, h5⟩ := h
    simp at h5
    obtain ⟨rfl, rfl⟩ := h5
    exact q_load p hE cx ho h1 h2 h3 h4 rfl
  · -- nilCheck
    rename_i x ho
    simp only [Option.bind_eq_some_iff, Option.map_eq_some_iff] at h
    obtain ⟨c, h1, q, h2, h3⟩ := h
    simp at h3
    exact q_nilCheck p hE cx ho h1 h2 h3.1.symm h3.2
  · -- binOp
    rename_i op t x y t2 ho
    split at h
    · rename_i T hT
      simp only [Option.bind_eq_some_iff, Option.map_eq_some_iff] at h
      obtain ⟨u1, h1, u2, h2, q, h3, h4⟩ := h
      simp at h4
      exact q_eqS p hE cx ho hT h1 h2 h3 h4.1.symm h4.2
    simp only [Option.bind_eq_some_iff] at h
    obtain ⟨c, h1, d, h2, h3⟩ := h
    split at h3
    · rename_i q hq
      simp at h3
      obtain ⟨e1, e2, e3⟩ := h3
      exact q_bin p hE cx ho h1 h2 (q := q.2) (by rw [hq]; rw [← e1]) e2.symm e3
    · simp only [Option.map_eq_some_iff] at h3
      obtain ⟨q, h4, h5⟩ := h3
      simp at h5
      exact q_binT p hE cx ho h1 h2 h4 h5.1.symm h5.2
  · -- unOp
    rename_i op t x ho
    simp only [Option.bind_eq_some_iff, Option.map_eq_some_iff] at h
    obtain ⟨c, h1, q, h2, h3⟩ := h
    simp at h3
    exact q_un p hE cx ho h1 h2 h3.1.symm h3.2
  · -- convert
    rename_i s d x ho
    simp only [Option.bind_eq_some_iff] at h
    obtain ⟨c, h1, h2⟩ := h
    split at h2
    · rename_i k2 k k3 m hs hd
      simp at h2
      exact q_conv p hE cx ho h1 hs hd h2.1.symm h2.2
    · simp at h2
  · -- makeFunc
    rename_i f l m ho
    simp only [Option.bind_eq_some_iff, Option.map_eq_some_iff] at h
    obtain ⟨l', h1, m', h2, h3⟩ := h
    simp at h3
    exact q_makeFunc p hE cx ho h1 h2 h3.1.symm h3.2
  · -- makeSlice
    rename_i t l c ho
    split at h
    · rename_i e hT
      split at h
      · simp at h
      rename_i hmp
      simp only [Option.bind_eq_some_iff, Option.map_eq_some_iff] at h
      obtain ⟨c1, h1, q1, h2, c2, h3, q2, h4, h5⟩ := h
      simp at h5
      obtain ⟨⟨b1, b2, b3⟩, e2, e3⟩ := h5
      exact q_makeSlice p hE cx ho hT hmp (by rw [h1, intOf_some h2]) (by rw [h3, intOf_some h4]) b1 b2 b3 e2.symm e3.symm
    · simp at h
  · -- slice
    rename_i ty x lo hi ho
    simp only [Option.bind_eq_some_iff, Option.map_eq_some_iff] at h
    obtain ⟨T, hT, c, h1, lo', h2, hi', h3, q, h4, h5⟩ := h
    have h2' := bound_ok (env := env) (x := lo) (r := lo') h2
    have h3' := bound_ok (env := env) (x := hi) (r := hi') h3
    simp at h5
    obtain ⟨e1, e2, e3⟩ := h5
    unfold sliceQ at h4
    split at h4
    · rename_i t xs
      split at h4
      case isFalse => simp at h4
      rename_i hTt
      obtain ⟨hTt, hmp⟩ := hTt
      subst hTt
      injection h4 with h4
      subst h4
      simp only [] at e1
      refine q_slice p hE cx (t := t) ho hT hmp h1 h2' h3' (m := xs.length) ⟨rfl, rfl⟩ e1 (fun u r A k hu hk => ?_) e2.symm e3
      subst hu
      have hle := chk_le e1
      rw [cutS_eq e1]
      exact part_ok hmp r hle.1 hle.2
    · rename_i hh
      split at h4
      case h_2 => simp at h4
      rename_i l e t xs hs
      split at h4
      case isFalse => simp at h4
      rename_i hTt
      obtain ⟨hTt, hmp⟩ := hTt
      subst hTt
      injection h4 with h4
      subst h4
      simp only [] at e1
      refine q_slice p hE cx (t := t) ho hT hmp h1 h2' h3' (m := xs.length) (by simp [sliceIs, hs]) e1 (fun u r A k hu hk => ?_) e2.symm e3
      have hG := p.slot hs (by simp)
      simp only [RepV, hG] at r
      simp only [RepV, hG]
      have hle := chk_le e1
      refine ⟨⟨hmp, by omega⟩, _, _, rfl, by omega, ?_, fun hlv => ?_⟩
      rotate_left
      · subst hlv
        obtain ⟨⟨cells, ho', _⟩, _⟩ := p.good.slot r.1 hG
        rw [owns_sl hmp] at ho'
        obtain ⟨_, ⟨e0, en⟩ | ⟨g, q', cap, cur, e0, _, hnc, _⟩⟩ := ho'
        · rw [hu] at e0
          simp at e0
          obtain ⟨rfl, _, rfl⟩ := e0
          refine .inl ⟨by omega, ?_, by omega⟩
          rw [if_pos (by omega)]
        · rw [hu] at e0
          simp at e0
          obtain ⟨rfl, rfl⟩ := e0
          by_cases hk' : k = (lo'.getD 0).toNat
          · exact .inr ⟨g, q', q', _, _, by rw [r.1, hu], by rw [if_pos hk'], by rw [hk', Nat.sub_self]; omega, by omega⟩
          · refine .inr ⟨g, q', q' + (lo'.getD 0).toNat * t.size, _, _, by rw [r.1, hu], by rw [if_neg hk']; simp [Addr.add_mid], ?_, by omega⟩
            have : (lo'.getD 0).toNat * t.size + (k - (lo'.getD 0).toNat) * t.size = k * t.size := by rw [← Nat.add_mul]; congr 1; omega
            omega
      by_cases hz : (hi'.getD xs.length).toNat - (lo'.getD 0).toNat = 0
      · exact .inl hz
      · obtain ⟨A', c', hu', _, hA⟩ := row_val hmp (p.good.slot r.1 hG)
        rw [hu] at hu'
        simp at hu'
        obtain ⟨rfl, rfl⟩ := hu'
        rcases hA with hA | ⟨g, q', hA⟩
        · subst hA; simp at hle hz; omega
        · refine .inr ⟨g, q', _, _, by rw [r.1, hu, hA], ?_⟩
          rw [if_neg (by omega), hA]
          simp [Addr.add_mid]
    · rename_i hh o' l
      split at h4
      case h_2 => simp at h4
      rename_i lv e t xs hs
      split at h4
      case isFalse => simp at h4
      rename_i hTt
      obtain ⟨hTt, hmp⟩ := hTt
      subst hTt
      injection h4 with h4
      subst h4
      simp only [] at e1
      refine q_slice p hE cx (t := t) ho hT hmp h1 h2' h3' (m := l) (by simp [sliceIs, hs]) e1 (fun u r A k hu hk => ?_) e2.symm e3
      have hG := p.slot hs (by simp)
      simp only [RepV, hG] at r
      simp only [RepV, hG]
      have hle := chk_le e1
      obtain ⟨⟨_, r1⟩, A', c', r2, r3, r4, rcap⟩ := r
      rw [hu] at r2
      simp at r2
      obtain ⟨rfl, rfl⟩ := r2
      refine ⟨⟨hmp, by omega⟩, _, _, rfl, by omega, ?_, fun hlv => ?_⟩
      rotate_left
      · rcases rcap hlv with ⟨b1, b2, b3⟩ | ⟨g, p', q', n', k', b1, b2, b3, b4⟩
        · refine .inl ⟨by omega, ?_, by omega⟩
          rw [if_pos (by omega)]
          exact b2
        · by_cases hk' : k = (lo'.getD 0).toNat
          · exact .inr ⟨g, p', q', n', k', b1, by rw [if_pos hk']; exact b2, by rw [hk', Nat.sub_self]; omega, by omega⟩
          · refine .inr ⟨g, p', q' + (lo'.getD 0).toNat * t.size, n', k', b1, by rw [if_neg hk', b2]; simp [Addr.add_mid], ?_⟩
            have : (lo'.getD 0).toNat * t.size + (k - (lo'.getD 0).toNat) * t.size = k * t.size := by rw [← Nat.add_mul]; congr 1; omega
            omega
      by_cases hz : (hi'.getD l).toNat - (lo'.getD 0).toNat = 0
      · exact .inl hz
      · rcases r4 with r4 | ⟨g, p', n', k', r4, r5⟩
        · subst r4; simp at hle hz; omega
        · refine .inr ⟨g, p', _, _, r4, ?_⟩
          rw [if_neg (by omega), r5]
          simp [Addr.add_mid, Nat.add_mul, Nat.add_assoc]
    · simp at h4
  · -- fieldAddr
    rename_i s x f ho
    simp only [Option.bind_eq_some_iff, Option.map_eq_some_iff] at h
    obtain ⟨c, h1, fl, h2, q, h3, h4⟩ := h
    simp at h4
    exact q_fieldAddr p hE cx ho h1 h2 h3 h4.1.symm h4.2
  · -- field
    rename_i s x f ho
    simp only [Option.bind_eq_some_iff] at h
    obtain ⟨u, h1, fl, h2, h3⟩ := h
    split at h3
    · simp only [Option.bind_eq_some_iff, Option.map_eq_some_iff] at h3
      obtain ⟨us, h4, v', h5, h6⟩ := h3
      simp at h6
      obtain ⟨rfl, rfl⟩ := h6
      exact q_field p hE cx ho h1 h2 h4 h5 rfl
    · simp at h3
  · -- indexAddr
    rename_i ty x ix ho
    split at h
    · rename_i aq haq
      simp only [Option.bind_eq_some_iff] at h
      obtain ⟨c, h1, ci, h2, q, h3, h4⟩ := h
      have h2' : oprC env ix = some (.int q.1 q.2) := by rw [h2, intOf_some h3]
      split at h4
      case h_2 => simp at h4
      rename_i hh
      split at h4
      case h_2 => simp at h4
      rename_i lv e t xs hs
      split at h4
      case isFalse => simp at h4
      rename_i ht
      simp at h4
      obtain ⟨⟨b1, b2, b3⟩, e2, e3⟩ := h4
      exact q_indexArr p hE cx (m := aq.1) ho (by rw [haq, ht]) h1 h2' hs b1 b2 b3 e2.symm e3
    simp only [Option.bind_eq_some_iff] at h
    obtain ⟨T, hT, c, h1, ci, h2, q, h3, h4⟩ := h
    have h2' : oprC env ix = some (.int q.1 q.2) := by rw [h2, intOf_some h3]
    split at h4
    · rename_i t xs
      split at h4
      case isFalse => simp at h4
      rename_i hTt
      obtain ⟨hTt, hmp⟩ := hTt
      subst hTt
      simp at h4
      obtain ⟨⟨b1, b2⟩, e2, e3⟩ := h4
      refine q_indexAddr p hE cx (t := t) ho hT hmp h1 h2' (m := xs.length) ⟨rfl, rfl⟩ b1 b2 (fun u r k g o hu => ?_) e2.symm e3
      subst hu
      have hx : xs[q.2.toNat]? = some (xs.getD q.2.toNat t.dflt) := by rw [List.getD_eq_getElem?_getD, List.getElem?_eq_getElem (toNat_lt b1 b2)]; simp
      have hF : F g := by
        obtain ⟨A, cap, e, hl, h | ⟨g', o', cells, hA, hF, _⟩⟩ := r
        · rw [h.1] at hx; simp at hx
        · rw [hdr_sl hmp] at e; simp at e; rw [hA] at e; simp at e; rw [e.1.1]; exact hF
      obtain ⟨cells, hr, hrange⟩ := row_elem (base := fun _ => True) (live := false) (e := 0) (t := t) (xs := xs) (β := β) (G := G) r rfl hx
      have hx' : xs.getD q.2.toNat t.dflt = xs[q.2.toNat]?.getD t.dflt := List.getD_eq_getElem?_getD
      refine ⟨g, o + q.2.toNat * t.size, cells, by rw [Nat.add_zero], hF, ?_, hrange⟩
      exact hr
    · rename_i hh
      split at h4
      case h_2 => simp at h4
      rename_i l e t xs hs
      split at h4
      case isFalse => simp at h4
      rename_i hTt
      obtain ⟨hTt, hmp⟩ := hTt
      subst hTt
      simp at h4
      obtain ⟨⟨b1, b2⟩, e2, e3⟩ := h4
      refine q_indexAddr p hE cx (t := t) ho hT hmp h1 h2' (m := xs.length) (by simp [sliceIs, hs]) b1 b2 (fun u r k g o hu => ?_) e2.symm e3
      have hG := p.slot hs (by simp)
      simp only [RepV, hG] at r
      simp only [RepV, RepPtr, hG]
      exact ⟨⟨hmp, toNat_lt b1 b2⟩, g, o, _, k, by rw [r.1, hu], by rw [Nat.add_zero]⟩
    · rename_i hh o' l
      split at h4
      case h_2 => simp at h4
      rename_i lv e t xs hs
      split at h4
      case isFalse => simp at h4
      rename_i hTt
      obtain ⟨hTt, hmp⟩ := hTt
      subst hTt
      simp at h4
      obtain ⟨⟨b1, b2⟩, e2, e3⟩ := h4
      refine q_indexAddr p hE cx (t := t) ho hT hmp h1 h2' (m := l) (by simp [sliceIs, hs]) b1 b2 (fun u r k g o hu => ?_) e2.symm e3
      have hG := p.slot hs (by simp)
      simp only [RepV, hG] at r
      simp only [RepV, RepPtr, hG]
      obtain ⟨⟨_, r1⟩, A, c, r2, r3, r4, _⟩ := r
      rcases r4 with r4 | ⟨g', p', n', k', r4, r5⟩
      · omega
      · rw [hu] at r2
        simp at r2
        obtain ⟨r2, _⟩ := r2
        rw [r5] at r2
        simp at r2
        obtain ⟨rfl, rfl⟩ := r2
        exact ⟨⟨hmp, by omega⟩, g, p', n', k', r4, by rw [Nat.add_zero, Nat.add_mul]; simp [Nat.add_assoc]⟩
    · simp at h4
  · -- extract
    rename_i x i ho
    simp only [Option.bind_eq_some_iff] at h
    obtain ⟨u, h1, h2⟩ := h
    split at h2
    · simp only [Option.bind_eq_some_iff, Option.map_eq_some_iff] at h2
      obtain ⟨q, h3, v', h4, h5⟩ := h2
      simp at h5
      obtain ⟨rfl, rfl⟩ := h5
      exact q_extract p hE cx ho h1 h3 h4 rfl
    · simp at h2
  · -- index
    rename_i t x ix ho
    split at h
    · rename_i hT
      simp only [Option.bind_eq_some_iff] at h
      obtain ⟨c, h1, j, h2, q, h3, h4⟩ := h
      split at h4
      · simp at h4
        obtain ⟨⟨b1, b2⟩, e1, e2⟩ := h4
        exact q_index p hE cx ho hT h1 (by rw [h2, intOf_some h3]) b1 b2 e1.symm e2
      · simp at h4
    · simp at h
  · -- entry
    rename_i x ho
    simp only [Option.bind_eq_some_iff] at h
    obtain ⟨c, h1, hh, hc, h2⟩ := h
    have hc := asRef_ok hc
    subst hc
    split at h2
    case h_2 => simp at h2
    rename_i k v0 es seen hs
    simp only [Option.some.injEq, Prod.mk.injEq, Bool.not_eq_true'] at h2
    exact q_entry p hE cx ho h1 hs h2.1 h2.2.1.symm h2.2.2.symm
  · -- makeMap
    rename_i t ho
    split at h
    · rename_i e hT
      split at h
      · rename_i hm
        simp at h
        exact q_makeMap p hE cx ho hT hm h.1.symm h.2.symm
      · simp at h
    · simp at h
  · -- lookup
    rename_i t x ix ok ho
    simp only [Option.bind_eq_some_iff] at h
    obtain ⟨T, hT, c, h1, ci, h2, q, h3, r, h4, h5⟩ := h
    split at h5
    case isFalse => simp at h5
    rename_i hTr
    simp only [Option.map_eq_some_iff] at h5
    obtain ⟨v', h6, h7⟩ := h5
    simp at h7
    obtain ⟨rfl, rfl⟩ := h7
    exact q_lookup p hE cx ho hT h1 (by rw [h2, intOf_some h3]) h4 hTr h6 rfl
  · -- len
    rename_i args ats ho
    simp only [Option.bind_eq_some_iff, Option.map_eq_some_iff] at h
    obtain ⟨x, h1, ty, h2, T, h3, c, h4, m, h5, h6⟩ := h
    simp at h6
    exact q_len p hE cx ho h1 h2 h3 h4 h5 h6.1.symm h6.2
  · rename_i args ats ho
    split at h
    · rename_i x y ha
      simp only [Option.bind_eq_some_iff, Option.map_eq_some_iff] at h
      obtain ⟨c, h1, d, h2, q, h3, h6⟩ := h
      simp at h6
      exact q_mm p hE cx (g := true) ho ha h1 h2 h3 h6.1.symm h6.2
    · simp at h
  · rename_i args ats ho
    split at h
    · rename_i x y ha
      simp only [Option.bind_eq_some_iff, Option.map_eq_some_iff] at h
      obtain ⟨c, h1, d, h2, q, h3, h6⟩ := h
      simp at h6
      exact q_mm p hE cx (g := false) ho ha h1 h2 h3 h6.1.symm h6.2
    · simp at h
  · simp at h
end
end Go.Proofs.Ytanpdkllnmeenaa.Am

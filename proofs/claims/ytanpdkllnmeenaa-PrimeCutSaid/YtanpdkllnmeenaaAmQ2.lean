/- The quiet operations: further. -/
import Derived.Test.YtanpdkllnmeenaaAmQ
namespace Go.Proofs.Ytanpdkllnmeenaa.Am
open Go Go.RowKit
set_option linter.unusedVariables false
set_option linter.unusedSectionVars false
set_option linter.unusedSimpArgs false
section
variable {P : Program} {C : Ctx} {F : Nat → Prop} {w : World} {β β' : Bd} {H G : Heap}
variable {L : Nat → Prop} {w0 : World} {F0 : Nat → Prop} {n : Nat} {sl : List Slot} {env : List AV} {a : Act} {o : Oper} {v : AV}
theorem pv_ok {c : CV} {q : PV} {u : Value} (h : c.pv = some q) (r : RepV F w β G c u) : RepP F w β G q u := by
  cases c <;> simp [CV.pv] at h <;> subst h
  · rw [show u = _ from r]; rfl
  · rw [show u = _ from r]; rfl
  · rw [show u = _ from r]; rfl
  · exact r
  · exact r
  · exact r
theorem av_ok {T : Option Ty} {c : AV} {q : PV} {u : Value} (h : c.pv T = some q) (r : RepA F w β G c u) : RepP F w β G q u := by
  cases c with
  | undef => simp [AV.pv] at h
  | tup => simp [AV.pv] at h
  | one c => exact pv_ok h r
  | agg cs =>
    simp only [AV.pv, Option.bind_eq_some_iff, Option.map_eq_some_iff] at h
    obtain ⟨t, _, x, h1, rfl⟩ := h
    obtain ⟨vs, e, r⟩ := r
    exact ⟨vs, e, rep_unflat1 h1 r⟩
theorem pvs_ok {T : Nat → Option Ty} {l : List Operand} {m : List PV} {i : Nat} (hl : ∀ x ∈ l, OpOk F w β G env a x) (h : pvs T i (l.map (opr env)) = some m) : All2 (RepP F w β G) m (l.map a.eval) := by
  induction l generalizing m i with
  | nil => simp [pvs] at h; subst h; exact .nil
  | cons x l ih =>
    simp only [List.map_cons, pvs, Option.bind_eq_some_iff, Option.map_eq_some_iff] at h
    obtain ⟨q, ⟨c, h1, h2⟩, r, h3, rfl⟩ := h
    exact .cons (av_ok h2 (hl x (by simp) _ h1)) (ih (fun y hy => hl y (by simp [hy])) h3)
theorem QPost.pure1 {q : CV} {v' : Value} (hr : (execOp a.eval o).run P w = .ok (.value v') w) (r : RepV F w β G q v') (base : Nat → Prop) : QPost P base F w β G n o a (.one q) [] := QPost.pure (v := .one q) hr r base
section ops
variable (p : Pre L w0 w F0 F β H G n sl) (hE : ∀ x ∈ o.op.operands, OpOk F w β G env a x) (cx : CtxOk P C)
include p hE cx
theorem q_un {op : UnOp} {t : TypeId} {x : Operand} {c q : CV} (ho : o.op = .unOp op t x) (h1 : oprC env x = some c) (h2 : unQ op c = some q) (hv : v = .one q) (hsl : sl = []) : QPost P (Bs L w0) F w β G n o a v sl := by
  subst hv hsl
  have hx := (hE x (by rw [ho]; simp [Op.operands])).cell h1
  cases op <;> cases c <;> simp [unQ] at h2
  · subst h2
    rename_i k m
    have ex : a.eval x = .int k m := hx
    exact QPost.pure1 (v' := .int k (k.wrap (-m))) (by simp [execOp, ho, ex, Op.unary, Op.intArith]) (by simp [RepV]) _
  · subst h2
    rename_i b
    have ex : a.eval x = .bool b := hx
    refine QPost.pure1 (v' := .bool (!b)) (by simp [execOp, ho, ex, Op.unary]) ?_ _
    rfl
theorem q_conv {s d : TypeId} {x : Operand} {k k2 k3 : IntKind} {m : Int} (ho : o.op = .convert s d x) (h1 : oprC env x = some (.int k3 m)) (hs : C.ty s = some (.int k2)) (hd : C.ty d = some (.int k)) (hv : v = .one (.int k (k.wrap m))) (hsl : sl = []) : QPost P (Bs L w0) F w β G n o a v sl := by
  subst hv hsl
  have ex : a.eval x = .int k3 m := (hE x (by rw [ho]; simp [Op.operands])).cell h1
  obtain ⟨d1, i1, z1, t1⟩ := cx.ty _ _ hs
  obtain ⟨d2, i2, z2, t2⟩ := cx.ty _ _ hd
  have e1 := t1.int _ rfl
  have e2 := t2.int _ rfl
  subst e1 e2
  refine QPost.pure1 (v' := .int k (k.wrap m)) (by simp [execOp, ho, ex, convert, run_underlying t1.und, run_underlying t2.und, Conv.intToInt]) ?_ _
  rfl
theorem q_makeFunc {f : FuncId} {l m : Array Operand} {l' m' : List PV} (ho : o.op = .makeFunc (.func f) l m) (h1 : pvs (C.pty f) 0 (l.toList.map (opr env)) = some l') (h2 : pvs (fun _ => none) 0 (m.toList.map (opr env)) = some m') (hv : v = .one (.fn f l' m')) (hsl : sl = []) : QPost P (Bs L w0) F w β G n o a v sl := by
  subst hv hsl
  refine QPost.pure1 (v' := .func (.func f) (l.map a.eval) (m.map a.eval)) (by simp [execOp, ho, Instr.makeFunc]) ?_ _
  refine ⟨_, _, rfl, ?_, ?_⟩
  · simpa using pvs_ok (fun x hx => hE x (by rw [ho]; simp [Op.operands]; exact .inl (by simpa using hx))) h1
  · simpa using pvs_ok (fun x hx => hE x (by rw [ho]; simp [Op.operands]; exact .inr (by simpa using hx))) h2
theorem q_fieldAddr {s : TypeId} {x : Operand} {f : Nat} {fl : Fld} {c q : CV} (ho : o.op = .fieldAddr s x f) (h1 : oprC env x = some c) (h2 : C.fld s f = some fl) (h3 : fldP H fl.off c = some q) (hv : v = .one q) (hsl : sl = []) : QPost P (Bs L w0) F w β G n o a v sl := by
  subst hv hsl
  have r := (hE x (by rw [ho]; simp [Op.operands])).cell h1
  obtain ⟨fields, fd, i, d, pl, fk⟩ := cx.fld _ _ _ h2
  have key : ∃ g off, a.eval x = .pointer (some ⟨g, off, none⟩) ∧ RepV F w β G q (.pointer (some ⟨g, off + fl.off, none⟩)) := by
    cases c <;> simp [fldP] at h3
    · rename_i h i off
      split at h3
      · simp at h3
      · rename_i hd
        injection h3 with h3
        subst h3
        have hG := p.slot (h := h) rfl (fun e => hd e)
        simp only [RepV, RepPtr, hG] at r ⊢
        cases hs : slotAt H h with
        | dead => exact absurd hs hd
        | row l e t xs =>
          rw [hs] at r
          obtain ⟨hi, g, o, n, c, hb, h⟩ := r
          exact ⟨g, _, h, hi, g, o, n, c, hb, by rw [Nat.add_assoc]⟩
        | box t cs =>
          rw [hs] at r
          obtain ⟨hi, g, hb, h⟩ := r
          exact ⟨g, _, h, hi, g, hb, rfl⟩
        | iter => rw [hs] at r; exact r.elim
    · subst h3
      obtain ⟨g, o, cells, h, hF, hr, hrange⟩ := r
      exact ⟨g, _, h, g, o, cells, by rw [Nat.add_assoc], hF, hr, hrange⟩
  obtain ⟨g, off, hx, hr⟩ := key
  have hadd : (⟨g, off, none⟩ : Addr).add fd.offset = ⟨g, off + fl.off, none⟩ := by rw [Addr.add_mid, fk.off]
  have hsz : (sizeOf fd.type).run P w = .ok i.size w := by simp [sizeOf, run_typeInfo w fk.info]
  have hne : i.size ≠ 0 := by rw [fk.size]; have := fk.pos; omega
  refine QPost.pure (v := .one q) (v' := .pointer (some ⟨g, off + fl.off, none⟩)) ?_ hr _
  simp [execOp, ho, hx, Instr.fieldAt, run_underlying fk.und, fk.at_, Instr.sureAddr, fieldPlace, hsz, hne, hadd]
theorem q_field {s : TypeId} {x : Operand} {f : Nat} {fl : Fld} {cs us : List CV} (ho : o.op = .field s x f) (h1 : opr env x = some (.agg cs)) (h2 : C.fld s f = some fl) (h3 : cutC cs fl.off fl.size = some us) (h4 : mkAV fl.agg us = some v) (hsl : sl = []) : QPost P (Bs L w0) F w β G n o a v sl := by
  subst hsl
  obtain ⟨vs, hx, r⟩ := hE x (by rw [ho]; simp [Op.operands]) _ h1
  obtain ⟨fields, fd, i, d, pl, fk⟩ := cx.fld _ _ _ h2
  obtain ⟨r1, r2, r3⟩ := rep_drop r h3
  have hl : ((vs.toList.drop fl.off).take fl.size).length = fl.size := by rw [← r1.length]; exact r2
  refine QPost.pure (v' := if fl.agg then .agg ((vs.toList.drop fl.off).take fl.size).toArray else ((vs.toList.drop fl.off).take fl.size).headD undef) ?_ (mkAV_ok h4 r1) _
  have hrow := fk.row
  cases hag : fl.agg with
  | true =>
    rw [hag] at hrow
    have : vs.extract fl.off (fl.off + fl.size) = ((vs.toList.drop fl.off).take fl.size).toArray := by
      apply Array.toList_inj.mp
      rw [Array.toList_extract, List.extract_eq_take_drop]
      simp
    have hsz : (sizeOf fd.type).run P w = .ok fl.size w := by simp [sizeOf, run_typeInfo w fk.info, fk.size]
    simp [execOp, ho, hx, Instr.field, run_underlying fk.und, fk.at_, asAgg, part, run_isAgg' fk.dund, hrow, hsz, fk.off, this]
  | false =>
    rw [hag] at hrow h4
    have hpos := fk.pos
    have hlt : fl.off < vs.size := by simpa using (by omega : fl.off < vs.toList.length)
    have e : ((vs.toList.drop fl.off).take fl.size).headD undef = vs[fl.off] := by
      have : ((vs.toList.drop fl.off).take fl.size)[0]? = some vs[fl.off] := by
        rw [List.getElem?_take_of_lt hpos, List.getElem?_drop, Nat.add_zero, Array.getElem?_toList, Array.getElem?_eq_getElem hlt]
      cases hq : ((vs.toList.drop fl.off).take fl.size) with
      | nil => rw [hq] at this; simp at this
      | cons b l => rw [hq] at this; simpa using this
    simp only [Bool.false_eq_true, if_false]
    rw [e]
    simp [execOp, ho, hx, Instr.field, run_underlying fk.und, fk.at_, asAgg, part, run_isAgg' fk.dund, hrow, fk.off, Array.getElem?_eq_getElem hlt]
theorem q_extract {x : Operand} {i : Nat} {vs : List (Bool × List CV)} {q : Bool × List CV} (ho : o.op = .extract x i) (h1 : opr env x = some (.tup vs)) (h2 : vs[i]? = some q) (h3 : mkAV q.1 q.2 = some v) (hsl : sl = []) : QPost P (Bs L w0) F w β G n o a v sl := by
  subst hsl
  obtain ⟨us, hx, r⟩ := hE x (by rw [ho]; simp [Op.operands]) _ h1
  obtain ⟨u, hu, r1⟩ := r.get h2
  refine QPost.pure (v' := u) (by simp [execOp, ho, hx, Instr.extract, show us[i]? = some u by simpa using hu]) ?_ _
  rcases q with ⟨b, cs⟩
  cases b with
  | true =>
    obtain ⟨ws, rfl, r2⟩ := r1
    simp [mkAV] at h3
    subst h3
    exact ⟨ws, rfl, r2⟩
  | false =>
    obtain ⟨c, hc, r2⟩ := r1
    subst hc
    simp [mkAV] at h3
    subst h3
    exact r2
theorem q_mm {g : Bool} {x y : Operand} {args : Array Operand} {ats : Array TypeId} {c d q : CV} (ho : o.op = .call { callee := .builtin (if g then .max else .min), args, argTypes := ats }) (ha : args.toList = [x, y]) (h1 : oprC env x = some c) (h2 : oprC env y = some d) (h3 : mmQ g c d = some q) (hv : v = .one q) (hsl : sl = []) : QPost P (Bs L w0) F w β G n o a v sl := by
  subst hv hsl
  have hargs : args = #[x, y] := Array.toList_inj.mp ha
  subst hargs
  have r1 := (hE x (by rw [ho]; simp [Op.operands, Call.operands])).cell h1
  have r2 := (hE y (by rw [ho]; simp [Op.operands, Call.operands])).cell h2
  unfold mmQ at h3
  split at h3
  · rename_i k m k' m'
    split at h3
    · rename_i e
      subst e
      injection h3 with h3
      subst h3
      have e1 : a.eval x = .int k' m := r1
      have e2 : a.eval y = .int k' m' := r2
      cases g with
      | true => exact QPost.pure1 (v' := .int k' (if m' > m then m' else m)) (by simp [execOp, ho, resolve, invoke, builtin, Builtin.max_, Builtin.max2, e1, e2]) (by show Value.int _ _ = Value.int _ _; congr 1; simp only [if_true, Int.max_def]; split <;> split <;> omega) _
      | false => exact QPost.pure1 (v' := .int k' (if m' < m then m' else m)) (by simp [execOp, ho, resolve, invoke, builtin, Builtin.min_, Builtin.min2, e1, e2]) (by show Value.int _ _ = Value.int _ _; congr 1; simp only [Bool.false_eq_true, if_false, Int.min_def]; split <;> split <;> omega) _
    · simp at h3
  · simp at h3
end ops
end
end Go.Proofs.Ytanpdkllnmeenaa.Am

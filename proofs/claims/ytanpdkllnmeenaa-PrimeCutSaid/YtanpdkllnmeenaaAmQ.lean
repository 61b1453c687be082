/- The quiet operations, one by one. -/
import Derived.Test.YtanpdkllnmeenaaAmOps
namespace Go.Proofs.Ytanpdkllnmeenaa.Am
open Go Go.RowKit
set_option linter.unusedVariables false
set_option linter.unusedSectionVars false
set_option linter.unusedSimpArgs false
section
variable {P : Program} {C : Ctx} {F : Nat → Prop} {w : World} {β β' : Bd} {H G : Heap}
variable {L : Nat → Prop} {w0 : World} {F0 : Nat → Prop} {n : Nat} {sl : List Slot} {env : List AV} {a : Act} {o : Oper} {v : AV}
def cvV : CV → Value
  | .int k n => .int k n | .bool b => .bool b | .str s => .string s | _ => undef
theorem run_newObj' (o : Obj) : (newObj o).run P w = .ok w.heap.size (w.alloc o) := rfl
theorem run_zero {t : TypeId} {i : TypeInfo} {z : Value} (hi : P.info? t = some i) (hz : i.zero = some z) : (zeroValue t).run P w = .ok z w := by
  simp [zeroValue, run_typeInfo w hi, hz]
theorem run_newRow (t : TypeId) (cs : Array Value) : (newRow t cs).run P w = .ok ⟨w.heap.size, 0, none⟩ (w.alloc (.cells cs t)) := by
  simp [newRow, run_newObj']
theorem run_newVar (t : TypeId) (v : Value) : (newVar t v).run P w = .ok ⟨w.heap.size, 0, none⟩ (w.alloc (.cells v.cells t)) := run_newRow t v.cells
theorem alloc_at (o : Obj) : (w.alloc o).heap[w.heap.size]? = some o := by unfold World.alloc; simp
theorem below_alloc' (o : Obj) : Below w.heap.size w (w.alloc o) := ⟨rfl, rfl, rfl, by simp, fun k hk => Below.heap_alloc w o k hk⟩
theorem not_F (p : Pre L w0 w F0 F β H G n sl) : ¬ F w.heap.size := fun h => Nat.lt_irrefl _ (p.good.fsz _ h)
theorem rep_drop {cs : List CV} {vs : List Value} (h : All2 (RepV F w β G) cs vs) {off size : Nat} {us : List CV} (hc : cutC cs off size = some us) : All2 (RepV F w β G) us ((vs.drop off).take size) ∧ us.length = size ∧ off + size ≤ vs.length := by
  unfold cutC at hc
  split at hc
  · rename_i hl
    injection hc with hc
    subst hc
    have := h.length
    exact ⟨(h.drop off).take size, by rw [List.length_take, List.length_drop]; omega, by omega⟩
  · simp at hc
/-- A slot that a handle is bound to. -/
theorem Good.slot (gd : Good L w0 w F0 F β G) {h : Nat} {u : Value} {s : Slot} (hb : β h = some u) (hs : G[h]? = some s) : SlotOk (Bs L w0) F w β G s u := by
  obtain ⟨s', h1, h2⟩ := gd.dom h u hb
  rw [hs] at h1
  injection h1 with h1
  subst h1
  exact h2
/-- The cells of a row's element. -/
theorem row_elem {base : Nat → Prop} {live : Bool} {e : TypeId} {t : Ty} {xs : List t.den} {u : Value} (hs : SlotOk base F w β G (.row live e t xs) u) {g off k c : Nat} (hu : u = .slice (some ⟨g, off, none⟩) k c) {i : Nat} {x : t.den} (hx : xs[i]? = some x) :
    ∃ cells, RepC F w t x cells ∧ w.rangeAt g (off + i * t.size) cells := by
  have hm : t.isMp = false := by
    cases hm : t.isMp with
    | false => rfl
    | true =>
      subst hu
      cases live with
      | true =>
        obtain ⟨⟨cells, ho, hr⟩, _⟩ := hs
        simp only [OwnsT, hm] at ho
        obtain ⟨g, h, _⟩ := ho
        cases h
      | false =>
        obtain ⟨A, cap, h1, _⟩ := hs
        simp [hdr, hm] at h1
  cases live with
  | true =>
    obtain ⟨⟨cells, ho, hr⟩, _⟩ := hs
    rw [owns_sl hm] at ho
    refine ⟨_, hr.get hx, ?_⟩
    obtain ⟨hl, h | ⟨g', o', cap, cur, hv, hh, hn, hm', hz, ht⟩⟩ := ho
    · rw [hu] at h; cases h.1
    · rw [hu] at hv
      injection hv with h1 h2 h3
      injection h1 with h1
      injection h1 with h1 h4 _
      subst h1 h4
      intro j v hv
      rw [List.getElem?_take] at hv
      split at hv
      · rename_i hj
        rw [List.getElem?_drop, ← ht, List.getElem?_take] at hv
        split at hv
        · simp only [World.cell?, hh]
          rw [List.getElem?_drop, Array.getElem?_toList] at hv
          simpa [Nat.add_assoc] using hv
        · simp at hv
      · simp at hv
  | false =>
    obtain ⟨A, cap, h1, h2, h3⟩ := hs
    rw [hu, hdr_sl hm] at h1
    simp at h1
    obtain ⟨h1, rfl, rfl⟩ := h1
    rcases h3 with ⟨h3, _⟩ | ⟨g', o', cells, hA, hF, hr, hrange⟩
    · subst h3; simp at hx
    · rw [lies_sl hm] at hrange
      rw [← h1] at hA
      injection hA with hA
      injection hA with e1 e2 _
      subst e1 e2
      refine ⟨_, hr.get hx, fun j v hv => ?_⟩
      rw [List.getElem?_take] at hv
      split at hv
      · rw [List.getElem?_drop] at hv
        have := hrange _ _ hv
        rwa [← Nat.add_assoc] at this
      · simp at hv
theorem range_cut {g off : Nat} {cells : List Value} (h : w.rangeAt g off cells) (o size : Nat) : w.rangeAt g (off + o) ((cells.drop o).take size) := by
  intro j v hv
  rw [List.getElem?_take] at hv
  split at hv
  · rw [List.getElem?_drop] at hv
    have := h _ _ hv
    rwa [← Nat.add_assoc] at this
  · simp at hv
theorem box_range {g : Nat} {arr : Array Value} {e : TypeId} {fr : Nat × Nat} (h : w.heap[g]? = some (.cells arr e fr)) : w.rangeAt g 0 arr.toList := by
  intro j v hv
  simp only [World.cell?, h]
  rw [Array.getElem?_toList] at hv
  simpa using hv
/-- What may be read. -/
theorem read_ok (gd : Good L w0 w F0 F β G) (hHG : ∀ (h : Nat) (s : Slot), slotAt H h = s → s ≠ .dead → G[h]? = some s) {c : CV} {u : Value} (r : RepV F w β G c u) {size : Nat} {cs : List CV} (h : readP H size c = some cs) :
    ∃ g off vs, u = .pointer (some ⟨g, off, none⟩) ∧ w.rangeAt g off vs ∧ vs.length = size ∧ All2 (RepV F w β G) cs vs := by
  unfold readP at h
  split at h
  · rename_i hh i off
    split at h
    · rename_i t cs' hs
      have hG := hHG _ _ hs (by simp)
      simp only [RepV, RepPtr, hG] at r
      obtain ⟨rfl, g, hb, rfl⟩ := r
      obtain ⟨g', arr, e, hu, hbase, harr, hall, hnF⟩ := gd.slot hb hG
      simp at hu
      subst hu
      obtain ⟨h1, h2, h3⟩ := rep_drop hall h
      refine ⟨g, off, _, rfl, by simpa using range_cut (box_range harr) off size, by have := h1.length; omega, h1⟩
    · rename_i l e t xs hs
      split at h
      · simp at h
      have hG := hHG _ _ hs (by simp)
      simp only [RepV, RepPtr, hG] at r
      obtain ⟨⟨_, hi⟩, g, o, n, c, hb, rfl⟩ := r
      have hx : xs[i]? = some (xs.getD i t.dflt) := by rw [List.getD_eq_getElem?_getD, List.getElem?_eq_getElem hi]; simp
      obtain ⟨cells, hr, hrange⟩ := row_elem (gd.slot hb hG) rfl hx
      obtain ⟨h1, h2, h3⟩ := rep_drop (rep_flat (β := β) (H := G) hr) h
      exact ⟨g, _, _, rfl, range_cut hrange off size, by have := h1.length; omega, h1⟩
    · simp at h
  · rename_i t x off
    obtain ⟨g, o, cells, rfl, hF, hr, hrange⟩ := r
    obtain ⟨h1, h2, h3⟩ := rep_drop (rep_flat (β := β) (H := G) hr) h
    exact ⟨g, _, _, rfl, range_cut hrange off size, by have := h1.length; omega, h1⟩
  · simp at h
theorem mkAV_ok {agg : Bool} {cs : List CV} {vs : List Value} {v : AV} (h : mkAV agg cs = some v) (r : All2 (RepV F w β G) cs vs) : RepA F w β G v (if agg then .agg vs.toArray else vs.headD undef) := by
  unfold mkAV at h
  split at h
  · injection h with h
    subst h
    exact ⟨vs.toArray, by simp [*], by simpa using r⟩
  · rename_i hf
    split at h
    · injection h with h
      subst h
      cases r with
      | cons r t => rw [if_neg hf]; exact r
    · simp at h
theorem run_isAgg' {t : TypeId} {d : TypeDesc} (h : P.underlying t = some d) : (isAgg t).run P w = .ok d.isRow w := by
  simp only [isAgg, Sem.run_bind, run_underlying h, Result.andThen_ok]
  cases d <;> rfl
theorem run_load_of {t : TypeId} {T : Ty} {d : TypeDesc} {i : TypeInfo} {z : Value} (ht : TOk P C t T d i z) {g off : Nat} {vs : List Value} (hr : w.rangeAt g off vs) (hl : vs.length = T.size) :
    (Instr.loadAt t (.pointer (some ⟨g, off, none⟩))).run P w = .ok (if T.isAgg then .agg vs.toArray else vs.headD undef) w := by
  cases hT : T.isAgg with
  | true => exact run_loadAt_mid w g off t vs d hr ht.und (ht.row.trans hT) (by rw [ht.info]; simp [ht.size, hl])
  | false =>
    have h1 := size_one hT
    rw [h1] at hl
    match vs, hl with
    | [u], _ =>
      have := hr 0 u rfl
      have hd := ht.row.trans hT
      rw [Nat.add_zero] at this
      simp [Instr.loadAt, Instr.sureAddr, loadVar, run_isAgg' ht.und, hd, load, Sem.run, this]
section ops
variable (p : Pre L w0 w F0 F β H G n sl) (hE : ∀ x ∈ o.op.operands, OpOk F w β G env a x) (cx : CtxOk P C)
include p hE cx
/-- A new variable. -/
theorem q_new {e : TypeId} {T : Ty} {cs : List CV} {sl' : List Slot} {u : Value} (hsl : sl = .box T cs :: sl') (hn : Nils sl')
    (hr : (execOp a.eval o).run P w = .ok (.value (.pointer (some ⟨w.heap.size, 0, none⟩))) (w.alloc (.cells u.cells e)))
    (hc : ∀ β', (∀ h u, β h = some u → β' h = some u) → AtN β' G (n + 1) sl' → All2 (RepV F w β' G) cs u.cells.toList) :
    QPost P (Bs L w0) F w β G n o a (.one (.ptr n 0 0)) sl := by
  subst hsl
  refine ⟨_, _, .pointer (some ⟨w.heap.size, 0, none⟩) :: List.replicate sl'.length (.slice none 0 0), hr, by simp, ⟨below_alloc' _, fun h => by simp at h⟩, fun j u g hu hg => ?_, fun β' hb hβ => ?_⟩
  · cases j with
    | zero => simp at hu; subst hu; simp [blk] at hg; subst hg; exact ⟨rfl, Nat.le_refl _, by simp⟩
    | succ j => exact (nils_blk (by simpa using hu) hg).elim
  · have h0 := hβ 0 _ rfl
    rw [Nat.add_zero] at h0
    have hG := p.new 0 _ rfl
    rw [Nat.add_zero] at hG
    have hat : AtN β' G (n + 1) sl' := nils_at hn rfl (fun j s hs => by have := p.new (j + 1) s (by simpa using hs); rwa [show n + (j + 1) = n + 1 + j by omega] at this) (fun j u hu => by have := hβ (j + 1) u (by simpa using hu); rwa [show n + (j + 1) = n + 1 + j by omega] at this)
    refine ⟨fun j s u hs hu => ?_, ?_⟩
    · cases j with
      | zero =>
        simp at hs hu
        subst hs hu
        exact ⟨_, _, e, rfl, .inl p.good.below.size, alloc_at _, (hc β' hb hat).mono fun _ _ => RepV.mono ⟨fun _ h => h, fun g hg => (below_alloc' _).block g (p.good.fsz g hg), fun _ _ h => h, fun h s hs => ⟨s, hs, by cases s <;> first | trivial | exact ⟨rfl, fun _ => rfl, id⟩⟩⟩, not_F p⟩
      | succ j => exact hn.slots (by simpa using hs) (by simpa using hu)
    · simp only [RepA, RepV, RepPtr, hG]
      exact ⟨by trivial, _, h0, rfl⟩
theorem q_alloc {e : TypeId} {T : Ty} (ho : o.op = .alloc e) (ht : C.ty e = some T) (h : (match fixC C.el T (zeroC T) (n + 1) with | (cs, sl, []) => some (true, AV.one (.ptr n 0 0), Slot.box T cs :: sl) | _ => none) = some (true, v, sl)) : QPost P (Bs L w0) F w β G n o a v sl := by
  obtain ⟨d, i, z, tk⟩ := cx.ty _ _ ht
  have hn := fixC_nils (el := C.el) T (zeroC T) (n + 1)
  split at h
  case h_2 => simp at h
  rename_i cs sl' he
  rw [he] at hn
  simp at h
  obtain ⟨rfl, hsl⟩ := h
  refine q_new p hE cx (T := T) (cs := cs) (e := e) (u := z) hsl.symm hn ?_ fun β' hb hat => ?_
  · simp [execOp, ho, Instr.alloc, run_zero tk.info tk.zero, run_newVar]
  · have := fixC_ok (el := C.el) (T := T) (n := n + 1) (tk.rep F w β' G) (by rw [he]; exact hat)
    rw [he] at this
    obtain ⟨v1, v2, e, r1, r2⟩ := this
    cases r2
    rw [e, List.append_nil]
    exact r1
theorem q_box {e : TypeId} {T : Ty} {x : Operand} {cs : List CV} {q : AV × List Slot} (ho : o.op = .box e x) (h1 : opd C env (n + 1) e x = some q) (h2 : q.1.cells = some cs) (hsl : sl = .box T cs :: q.2) : QPost P (Bs L w0) F w β G n o a (.one (.ptr n 0 0)) sl := by
  have hx : OpOk F w β G env a x := hE x (by rw [ho]; simp [Op.operands])
  refine q_new p hE cx (T := T) (cs := cs) (e := e) (u := a.eval x) hsl (opd_nils h1) ?_ fun β' hb hat => ?_
  · simp [execOp, ho, Instr.box, run_newVar]
  · exact cells_ok h2 (opd_ok (fun v hv => (hx v hv).mono (keeps_ext hb fun _ _ => rfl)) h1 hat)
theorem q_load {t : TypeId} {T : Ty} {x : Operand} {c : CV} {cs : List CV} (ho : o.op = .load t x) (ht : C.ty t = some T) (h1 : oprC env x = some c) (h2 : readP H T.size c = some cs) (h3 : mkAV T.isAgg cs = some v) (hsl : sl = []) : QPost P (Bs L w0) F w β G n o a v sl := by
  subst hsl
  obtain ⟨d, i, z, tk⟩ := cx.ty _ _ ht
  have hx : OpOk F w β G env a x := hE x (by rw [ho]; simp [Op.operands])
  obtain ⟨g, off, vs, hu, hr, hl, r⟩ := read_ok p.good (fun h s => p.slot) (hx.cell h1) h2
  refine QPost.pure (v' := if T.isAgg then .agg vs.toArray else vs.headD undef) ?_ (mkAV_ok h3 r) _
  simp [execOp, ho, hu, run_load_of tk hr hl]
theorem q_nilCheck {x : Operand} {c q : CV} (ho : o.op = .nilCheck x) (h1 : oprC env x = some c) (h2 : nilP H c = some q) (hv : v = .one q) (hsl : sl = []) : QPost P (Bs L w0) F w β G n o a v sl := by
  subst hv hsl
  have r := (hE x (by rw [ho]; simp [Op.operands])).cell h1
  have key : (∃ a', a.eval x = .pointer (some a')) ∧ q = c := by
    cases c <;> simp [nilP] at h2
    · rename_i h i off
      split at h2
      · simp at h2
      · rename_i hd
        simp at h2
        subst h2
        refine ⟨?_, rfl⟩
        have hG := p.slot (h := h) rfl (fun e => hd e)
        simp only [RepV, RepPtr, hG] at r
        cases hs : slotAt H h with
        | dead => exact absurd hs hd
        | row l e t xs => rw [hs] at r; obtain ⟨_, g, o, n, c, _, h⟩ := r; exact ⟨_, h⟩
        | box t cs => rw [hs] at r; obtain ⟨_, g, _, h⟩ := r; exact ⟨_, h⟩
        | iter => rw [hs] at r; exact r.elim
    · subst h2
      obtain ⟨g, o, cells, h, _⟩ := r
      exact ⟨⟨_, h⟩, rfl⟩
  obtain ⟨⟨a', ha⟩, rfl⟩ := key
  refine QPost.pure (v := .one q) (v' := a.eval x) ?_ r _
  simp [execOp, ho, ha]
theorem q_pure1 {v' : Value} (hr : (execOp a.eval o).run P w = .ok (.value v') w) (r : RepA F w β G v v') (hsl : sl = []) : QPost P (Bs L w0) F w β G n o a v sl := by
  subst hsl
  exact QPost.pure hr r _
theorem q_bin {op : BinOp} {t t2 : TypeId} {x y : Operand} {c d : CV} {q : CV} (ho : o.op = .binOp op t x y t2) (h1 : oprC env x = some c) (h2 : oprC env y = some d) (h3 : binQ op c d = some (true, q)) (hv : v = .one q) (hsl : sl = []) : QPost P (Bs L w0) F w β G n o a v sl := by
  subst hsl hv
  have hx := (hE x (by rw [ho]; simp [Op.operands])).cell h1
  have hy := (hE y (by rw [ho]; simp [Op.operands])).cell h2
  cases c with
  | int k m =>
    cases d with
    | int k' m' =>
      have ex : a.eval x = .int k m := hx
      have ey : a.eval y = .int k' m' := hy
      have hg : (eqGuard op t x y (.int k m) (.int k' m')).run P w = .ok () w := by
        unfold eqGuard
        cases op <;> simp
      have key : (binOp op t (.int k m) (.int k' m')).run P w = .ok (cvV q) w ∧ RepV F w β G q (cvV q) := by
        unfold binQ at h3
        cases op
        case shl | shr =>
          simp only [Option.some.injEq, Prod.mk.injEq, decide_eq_true_eq] at h3
          obtain ⟨hne, rfl⟩ := h3
          have hlt : ¬ m' < 0 := by omega
          exact ⟨by simp [binOp, Op.shift, hlt, cvV], rfl⟩
        case quo | rem =>
          simp only [] at h3
          split at h3
          · rename_i hk
            subst hk
            simp only [Option.some.injEq, Prod.mk.injEq, bne_iff_ne, ne_eq] at h3
            obtain ⟨hne, rfl⟩ := h3
            exact ⟨by simp [binOp, Op.intDiv, hne, cvV], rfl⟩
          · simp at h3
        all_goals
          simp only [] at h3
          split at h3
          case isFalse => simp at h3
          rename_i hk
          subst hk
          first
            | (simp at h3; done)
            | (simp only [Option.some.injEq, Prod.mk.injEq, true_and] at h3
               subst h3
               exact ⟨by simp [binOp, Op.intArith, Op.intBits, Op.intCmp, cvV], rfl⟩)
      obtain ⟨hu, r⟩ := key
      refine QPost.pure (v := .one q) (v' := cvV q) ?_ r _
      simp [execOp, ho, ex, ey, hg, hu]
    | _ => cases op <;> simp [binQ] at h3
  | _ => cases op <;> simp [binQ] at h3
end ops
end
end Go.Proofs.Ytanpdkllnmeenaa.Am

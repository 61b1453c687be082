/- The machine's operations that change what is there. -/
import Derived.Test.YtanpdkllnmeenaaAma
import Derived.Laws.CopyRow
import Derived.Deep.Upon
import Derived.Lib.SliceRun
import Derived.Maps.RangeRun
namespace Go.Proofs.Ytanpdkllnmeenaa.Am
open Go Go.RowKit
set_option linter.unusedVariables false
set_option linter.unusedSectionVars false
set_option linter.unusedSimpArgs false
section
variable {P : Program} {C : Ctx} {F F' : Nat → Prop} {w w' : World} {β β' : Bd} {H H' G : Heap}
variable {L : Nat → Prop} {w0 : World} {F0 : Nat → Prop} {n : Nat} {sl : List Slot} {env : List AV} {a : Act} {o : Oper} {v : AV} {base : Nat → Prop}
theorem bound_lt (gd : Good L w0 w F0 F β H) {h : Nat} {u : Value} (hb : β h = some u) : h < H.length := by
  obtain ⟨s, h1, _⟩ := gd.dom h u hb
  exact (List.getElem?_eq_some_iff.1 h1).1
theorem free_end (gd : Good L w0 w F0 F β H) (j : Nat) : β (H.length + j) = none := by
  cases hb : β (H.length + j) with
  | none => rfl
  | some u => have := bound_lt gd hb; omega
theorem Keeps.trans {F1 F2 F3 : Nat → Prop} {w1 w2 w3 : World} {b1 b2 b3 : Bd} {H1 H2 H3 : Heap} (h : Keeps F1 F2 w1 w2 b1 b2 H1 H2) (k : Keeps F2 F3 w2 w3 b2 b3 H2 H3) : Keeps F1 F3 w1 w3 b1 b3 H1 H3 := by
  refine ⟨fun g hg => k.f g (h.f g hg), fun g hg => (k.w g (h.f g hg)).trans (h.w g hg), fun x u hx => k.b _ _ (h.b _ _ hx), fun x s hs => ?_⟩
  obtain ⟨s2, e2, l2⟩ := h.h x s hs
  obtain ⟨s3, e3, l3⟩ := k.h x s2 e2
  refine ⟨s3, e3, ?_⟩
  cases s <;> cases s2 <;> cases s3 <;> first
    | trivial
    | exact l2.elim
    | exact l3.elim
    | (obtain ⟨rfl, e⟩ := l2
       obtain ⟨rfl, e'⟩ := l3
       exact ⟨rfl, fun h => (e'.1 h).trans (e.1 h), fun h => e.2 (e'.2 h)⟩)
/-- Nil slices get rows. -/
theorem good_nils (gd : Good L w0 w F0 F β H) (hn : Nils sl) : ∃ β', Good L w0 w F0 F β' (H ++ sl) ∧ Keeps F F w w β β' H (H ++ sl) ∧ AtN β' (H ++ sl) H.length sl := by
  obtain ⟨g1, k1⟩ := good_more gd sl
  have hext : ∀ h u, β h = some u → ext β H.length (List.replicate sl.length (.slice none 0 0)) h = some u := fun h u => ext_old fun j _ => free_end gd j
  have k2 : Keeps F F w w β (ext β H.length (List.replicate sl.length (.slice none 0 0))) (H ++ sl) (H ++ sl) := keeps_ext hext fun _ _ => rfl
  have hat : ∀ (j : Nat) (s : Slot), sl[j]? = some s → (H ++ sl)[H.length + j]? = some s := fun j s hs => by
    rw [List.getElem?_append_right (by omega)]; simpa using hs
  refine ⟨_, ⟨g1.below, g1.fsz, g1.f0, g1.f1, fun h u hu => ?_, fun h h' s s' u u' g h1 h2 l1 l2 b1 b2 q1 q2 => ?_⟩, k1.trans k2, fun j s hs => ⟨hat j s hs, ext_new ?_⟩⟩
  · rcases ext_some hu with ⟨j, rfl, hj⟩ | hu
    · have hj' := (List.getElem?_eq_some_iff.1 hj).1
      rw [List.length_replicate] at hj'
      have e := List.getElem?_eq_getElem hj'
      exact ⟨_, hat _ _ e, hn.slots e hj⟩
    · obtain ⟨s, h1, h2⟩ := g1.dom h u hu
      exact ⟨s, h1, h2.keep k2 fun _ _ _ => ⟨rfl, id⟩⟩
  · rcases ext_some b1 with ⟨j, rfl, hj⟩ | b1
    · exact (nils_blk hj q1).elim
    · rcases ext_some b2 with ⟨j, rfl, hj⟩ | b2
      · exact (nils_blk hj q2).elim
      · exact g1.sep h h' s s' u u' g h1 h2 l1 l2 b1 b2 q1 q2
  · have hj := (List.getElem?_eq_some_iff.1 hs).1
    rw [List.getElem?_replicate_of_lt hj]
theorem setRow_ne {g k : Nat} {cs : Array Value} (h : k ≠ g) : (w.setRow g cs).heap[k]? = w.heap[k]? := by
  simp [World.setRow, Array.getElem?_modify, Ne.symm h]
theorem setRow_size {g : Nat} {cs : Array Value} : (w.setRow g cs).heap.size = w.heap.size := by simp [World.setRow]
theorem setRow_below {g b : Nat} {cs : Array Value} (h : b ≤ g) : Below b w (w.setRow g cs) := ⟨rfl, rfl, rfl, by rw [setRow_size]; exact Nat.le_refl _, fun k hk => setRow_ne (by omega)⟩
theorem drop_patch {α : Type} {c L : List α} {o a : Nat} (h : o + a ≤ c.length) : (c.take (o + a) ++ L ++ c.drop (o + a + L.length)).drop o = (c.drop o).take a ++ L ++ (c.drop o).drop (a + L.length) := by
  rw [List.append_assoc, List.drop_append_of_le_length (by rw [List.length_take]; omega), List.drop_take, List.append_assoc, List.drop_drop, Nat.add_sub_cancel_left, Nat.add_assoc]
theorem run_storeAt {t : TypeId} {T : Ty} {d : TypeDesc} {i : TypeInfo} {z : Value} (tk : TOk P C t T d i z) {g off : Nat} {e : TypeId} {cur : Array Value} {u : Value} (hh : w.heap[g]? = some (.cells cur e (0, 0))) (hl : u.cells.toList.length = T.size) (hfit : off + T.size ≤ cur.size) (h1 : ∀ x ∈ u.cells.toList, x.oneCell' = true) :
    (Instr.storeAt t (.pointer (some ⟨g, off, none⟩)) u).run P w = .ok () (w.setRow g (cur.toList.take off ++ u.cells.toList ++ cur.toList.drop (off + T.size)).toArray) := by
  have hsz : (sizeOf t).run P w = .ok T.size w := by simp [sizeOf, run_typeInfo w tk.info, tk.size]
  have hl' : u.cells.size = T.size := by simpa using hl
  have := run_storeCells_at (P := P) g off e u.cells.toList 0 cur w hh (by omega) h1
  simp only [Nat.add_zero, hl] at this
  simp [Instr.storeAt, Instr.sureAddr, storeVar, hsz, hl', this]
theorem patch_take {α : Type} {cur L : List α} {a s off N : Nat} (h1 : off + L.length ≤ s) (h2 : a + s ≤ N) (h3 : N ≤ cur.length) :
    (cur.take (a + off) ++ L ++ cur.drop (a + off + L.length)).take N = (cur.take N).take a ++ ((((cur.take N).drop a).take s).take off ++ L ++ (((cur.take N).drop a).take s).drop (off + L.length)) ++ (cur.take N).drop (a + s) := by
  apply List.ext_getElem?
  intro j
  simp only [List.getElem?_take, List.getElem?_append, List.getElem?_drop, List.length_take, List.length_append, List.length_drop]
  repeat' split
  all_goals first
    | rfl
    | omega
    | (congr 1; omega)
theorem all2_one {cs : List CV} {vs : List Value} (h : All2 (RepV F w β H) cs vs) : ∀ x ∈ vs, x.oneCell' = true := by
  induction h with
  | nil => intro x hx; simp at hx
  | cons r _ ih =>
    intro x hx
    rcases List.mem_cons.1 hx with rfl | hx
    · exact RepV.one r
    · exact ih x hx
/-- A part of a row that stays. -/
theorem sub_rep {Q : Option Addr → Nat → Prop} {t : Ty} {xs : List t.den} {u : Value} {p m : Nat} {b : Option Value} (r : (t.isMp = false ∧ p + m ≤ xs.length) ∧ ∃ A c, u = .slice A m c ∧ m ≤ c ∧ (m = 0 ∨ ∃ g q n k, b = some (.slice (some ⟨g, q, none⟩) n k) ∧ A = some ⟨g, q + p * t.size, none⟩) ∧ Q A c)
    (ok : ∀ {x : Value}, b = some x → RepC F w (.sl t) xs [x]) : RepC F w (.sl t) ((xs.drop p).take m) [u] := by
  obtain ⟨⟨hm, r1⟩, A, c, r2, r3, r4, _⟩ := r
  have hlen : ((xs.drop p).take m).length = m := by rw [List.length_take, List.length_drop]; omega
  rcases r4 with r4 | ⟨g, q, n, kk, r4, r5⟩
  · exact ⟨A, c, by rw [r2, hlen, hdr_sl hm], by omega, .inl ⟨List.length_eq_zero_iff.1 (by omega), fun h => by simp [hm] at h⟩⟩
  · obtain ⟨A', cap, e1, e2, e3⟩ := ok r4
    rw [hdr_sl hm] at e1
    simp at e1
    obtain ⟨rfl, rfl, rfl⟩ := e1
    refine ⟨A, c, by rw [r2, hlen, hdr_sl hm], by omega, ?_⟩
    rcases e3 with ⟨e3, _⟩ | ⟨g2, o2, cells, h1, h2, h3, h4⟩
    · exact .inl ⟨by rw [e3]; simp, fun h => by simp [hm] at h⟩
    · simp at h1
      obtain ⟨rfl, rfl⟩ := h1
      exact .inr ⟨g, _, _, r5, h2, h3.sub p m, (lies_sl hm).2 (range_cut ((lies_sl hm).1 h4) _ _)⟩
/-- What is laid into a row. -/
theorem frz1_ok (gd : Good L w0 w F0 F β H) {c c' : CV} {u : Value} (r : RepV F w β H c u) (h : frz1 H c = some (c', H')) :
    ∃ F', Good L w0 w F0 F' β H' ∧ Keeps F F' w w β β H H' ∧ RepV F' w β H' c' u := by
  have same : some (c, H) = some (c', H') → ∃ F', Good L w0 w F0 F' β H' ∧ Keeps F F' w w β β H H' ∧ RepV F' w β H' c' u := fun h => by
    injection h with h
    injection h with h1 h2
    subst h1 h2
    exact ⟨F, gd, ⟨fun _ h => h, fun _ _ => rfl, fun _ _ h => h, fun h s hs => ⟨s, hs, like_refl s⟩⟩, r⟩
  cases c with
  | ref k =>
    simp only [frz1] at h
    split at h
    · rename_i l e t xs hs
      injection h with h
      injection h with h1 h2
      subst h1 h2
      have hH := slotAt_row hs (by simp)
      obtain ⟨F', g', k', _, _⟩ := good_freeze gd hH
      refine ⟨F', g', k', ?_⟩
      simp only [RepV, hH] at r
      exact g'.slot r.1 (set_at hH)
    · simp at h
  | sub k p m =>
    simp only [frz1] at h
    split at h
    · rename_i l e t xs hs
      injection h with h
      injection h with h1 h2
      subst h1 h2
      have hH := slotAt_row hs (by simp)
      obtain ⟨F', g', k', _, _⟩ := good_freeze gd hH
      refine ⟨F', g', k', ?_⟩
      simp only [RepV, hH] at r
      exact sub_rep r (g'.slot · (set_at hH))
    · simp at h
  | _ => exact same h
theorem frzL_ok : ∀ {cs cs' : List CV} {vs : List Value} {F : Nat → Prop} {H H' : Heap}, Good L w0 w F0 F β H → All2 (RepV F w β H) cs vs → frzL H cs = some (cs', H') →
    ∃ F', Good L w0 w F0 F' β H' ∧ Keeps F F' w w β β H H' ∧ All2 (RepV F' w β H') cs' vs
  | [], cs', vs, F, H, H', gd, r, h => by
    simp [frzL] at h
    obtain ⟨rfl, rfl⟩ := h
    cases r
    exact ⟨F, gd, ⟨fun _ h => h, fun _ _ => rfl, fun _ _ h => h, fun h s hs => ⟨s, hs, like_refl s⟩⟩, .nil⟩
  | c :: l, cs', vs, F, H, H', gd, r, h => by
    simp only [frzL, Option.bind_eq_some_iff, Option.map_eq_some_iff] at h
    obtain ⟨q, h1, q2, h2, h3⟩ := h
    simp at h3
    obtain ⟨rfl, rfl⟩ := h3
    cases r with
    | cons r rt =>
      obtain ⟨F1, g1, k1, r1⟩ := frz1_ok (c' := q.1) (H' := q.2) gd r h1
      obtain ⟨F2, g2, k2, r2⟩ := frzL_ok (cs' := q2.1) (H' := q2.2) g1 (rt.mono fun _ _ => RepV.mono k1) h2
      exact ⟨F2, g2, k1.trans k2, .cons (r1.mono k2) r2⟩
def EPost (P : Program) (w0 w : World) (F0 F : Nat → Prop) (β : Bd) (H : Heap) (o : Oper) (a : Act) (v : AV) (H' : Heap) : Prop :=
  ∃ nx w' F' β', (execOp a.eval o).run P w = .ok nx w' ∧ Good L w0 w' F0 F' β' H' ∧ Keeps F F' w w' β β' H H' ∧ ((∃ v', nx = .value v' ∧ RepA F' w' β' H' v v') ∨ (nx = .skip ∧ v = .undef))
section ops
variable (gd : Good L w0 w F0 F β H) (hE : ∀ x ∈ o.op.operands, OpOk F w β H env a x) (cx : CtxOk P C)
include gd hE cx
theorem e_store {t : TypeId} {T : Ty} {x y : Operand} {c : CV} {q : AV × List Slot} {us : List CV} (ho : o.op = .store t x y) (hT : C.ty t = some T) (h1 : oprC env x = some c) (h2 : opd C env H.length t y = some q) (h3 : q.1.cells = some us) (hlen : us.length = T.size)
    (h4 : storeP H us q.2 c = some H') (hv : v = .undef) : EPost (L := L) P w0 w F0 F β H o a v H' := by
  subst hv
  obtain ⟨d, it, z, tk⟩ := cx.ty _ _ hT
  have hx := (hE x (by rw [ho]; simp [Op.operands])).cell h1
  have hy : OpOk F w β H env a y := hE y (by rw [ho]; simp [Op.operands])
  have hrun : ∀ {w'}, (Instr.storeAt t (a.eval x) (a.eval y)).run P w = .ok () w' → (execOp a.eval o).run P w = .ok .skip w' := fun {w'} h => by
    simp [execOp, ho, h]
  unfold storeP at h4
  split at h4
  case h_2 => simp at h4
  rename_i h i off
  split at h4
  · -- a variable
    rename_i bt cs hs
    split at h4
    case isFalse => simp at h4
    rename_i hc
    obtain ⟨rfl, hfit⟩ := hc
    simp at h4
    subst h4
    have hH := slotAt_row hs (by simp)
    have hn := opd_nils h2
    obtain ⟨β1, g1, k1, hat⟩ := good_nils gd hn
    have r1 := cells_ok h3 (opd_ok (fun v hv => (hy v hv).mono k1) h2 hat)
    have hx1 := hx.mono k1
    have hH1 : (H ++ q.2)[h]? = some (.box bt cs) := by rw [List.getElem?_append_left (List.getElem?_eq_some_iff.1 hH).1]; exact hH
    simp only [RepV, RepPtr, hH1] at hx1
    obtain ⟨_, g, hb, hxv⟩ := hx1
    obtain ⟨g', arr, e, hu, hbase, harr, hall, hnF⟩ := g1.slot hb hH1
    simp at hu
    subst hu
    have hal := hall.length
    have hul := r1.length
    have hst := run_storeAt tk (w := w) (off := off) (u := a.eval y) harr (by omega) (by simp at hal; omega) (all2_one r1)
    have e1 : (H.set h (.box bt (setAt cs off us))) ++ q.2 = (H ++ q.2).set h (.box bt (setAt cs off us)) := by
      rw [List.set_append_left _ _ (List.getElem?_eq_some_iff.1 hH).1]
    rw [e1]
    obtain ⟨g2, k2⟩ := good_write (w' := w.setRow g (arr.toList.take off ++ (a.eval y).cells.toList ++ arr.toList.drop (off + T.size)).toArray) g1 hH1 rfl hb (g := g) rfl (s' := .box bt (setAt cs off us)) trivial (setRow_below (Nat.zero_le _)) setRow_size (fun k hk => setRow_ne hk) fun kp => ⟨g, _, e, rfl, hbase, setRow_heap w g arr _ e (0, 0) harr, by
      have := ((hall.mono fun _ _ => RepV.mono kp).patch (r1.mono fun _ _ => RepV.mono kp) off)
      rw [← setAt_eq _ _ _ hfit, show (a.eval y).cells.toList.length = T.size by omega] at this
      exact this, hnF⟩
    exact ⟨_, _, F, β1, hrun (by rw [hxv]; exact hst), g2, k1.trans k2, .inr ⟨rfl, rfl⟩⟩
  · -- a row's element
    rename_i l0 e0 t0 xs0 hs
    split at h4
    case isFalse => simp at h4
    rename_i hq2
    simp only [Option.bind_eq_some_iff] at h4
    obtain ⟨p, hp, h5⟩ := h4
    split at h5
    case h_2 => simp at h5
    rename_i e t' xs hs2
    split at h5
    case isFalse => simp at h5
    rename_i hfit
    obtain ⟨hfit, hmp⟩ := hfit
    simp only [Option.map_eq_some_iff] at h5
    obtain ⟨y', hy', rfl⟩ := h5
    have hH := slotAt_row hs (by simp)
    have hq2' : q.2 = [] := List.length_eq_zero_iff.1 hq2
    have r1 := cells_ok h3 (opd_ok hy h2 (by rw [hq2']; intro j s hj; simp at hj))
    obtain ⟨F1, g1, k1, r2⟩ := frzL_ok (cs' := p.1) (H' := p.2) gd r1 hp
    have hH2 := slotAt_row hs2 (by simp)
    have hx1 := hx.mono k1
    simp only [RepV, RepPtr, hH2] at hx1
    obtain ⟨⟨_, hi⟩, g, oo, nn, cc, hb, hxv⟩ := hx1
    obtain ⟨⟨cells, ho, hr⟩, hnF⟩ := g1.slot hb hH2
    rw [owns_sl hmp] at ho
    obtain ⟨hl, h6 | ⟨g', o', cap, cur, h6, h8, h9, h10, h11, h12⟩⟩ := ho
    · rw [h6.1] at hb; have := h6.2; omega
    simp at h6
    obtain ⟨⟨rfl, rfl⟩, rfl, rfl⟩ := h6
    have hx0 : xs[i]? = some (xs.getD i t'.dflt) := by rw [List.getD_eq_getElem?_getD, List.getElem?_eq_getElem hi]; simp
    have hrx := hr.get hx0
    have hfl := rep_flat (β := β) (H := p.2) hrx
    have hul := r1.length
    have hpl := r2.length
    have hel := hrx.len
    have hcle : i * t'.size + t'.size ≤ cells.length := by
      have := Nat.mul_le_mul_right t'.size (show i + 1 ≤ xs.length from hi)
      rw [Nat.add_mul] at this
      omega
    have hcap : xs.length * t'.size ≤ cc * t'.size := Nat.mul_le_mul_right _ h9
    have hst := run_storeAt tk (w := w) (off := oo + (i * t'.size + off)) (u := a.eval y) h8 (by omega) (by omega) (all2_one r1)
    rw [Nat.add_assoc] at hxv
    have hpatch := hfl.patch r2 off
    have hsl : (flat t' (xs.getD i t'.dflt)).length = t'.size := by rw [hfl.length]; exact hel
    have hse := setAt_eq p.1 (flat t' (xs.getD i t'.dflt)) off (by omega)
    rw [← hse] at hpatch
    have hry := rep_unflat1 hy' hpatch
    have hryl := hry.len
    have hrow := hr.set hi hryl hry
    have hpt := patch_take (cur := cur.toList.drop oo) (L := (a.eval y).cells.toList) (a := i * t'.size) (s := t'.size) (off := off) (N := xs.length * t'.size) (by omega) (by omega) (by simp; omega)
    rw [h12, show (a.eval y).cells.toList.length = T.size by omega] at hpt
    rw [show (a.eval y).cells.toList.length = T.size by omega] at hrow
    have hul' : us.length = (a.eval y).cells.size := by simpa using hul
    have hdp := drop_patch (c := cur.toList) (L := (a.eval y).cells.toList) (o := oo) (a := i * t'.size + off) (by simp; omega)
    rw [show (a.eval y).cells.toList.length = T.size by omega] at hdp
    have hsz : oo + cc * t'.size ≤ (cur.toList.take (oo + (i * t'.size + off)) ++ (a.eval y).cells.toList ++ cur.toList.drop (oo + (i * t'.size + off) + T.size)).toArray.size := by
      simp only [List.size_toArray, List.length_append, List.length_take, List.length_drop, Array.length_toList]
      rw [Nat.min_eq_left (by omega)]
      omega
    obtain ⟨g2, k2⟩ := good_write (w' := w.setRow g (cur.toList.take (oo + (i * t'.size + off)) ++ (a.eval y).cells.toList ++ cur.toList.drop (oo + (i * t'.size + off) + T.size)).toArray) g1 hH2 rfl hb (g := g) rfl (s' := .row true e t' (xs.set i y')) ⟨rfl, fun _ => by simp, id⟩ (setRow_below (Nat.zero_le _)) setRow_size (fun k hk => setRow_ne hk)
      fun kp => ⟨⟨_, (owns_sl hmp).2 ⟨hrow.1, (.inr ⟨g, oo, cc, _, by simp, setRow_heap w g cur _ e (0, 0) h8, by simpa using h9, h10, hsz, by rw [List.length_set]; simp only [hdp]; exact hpt⟩)⟩, hrow.mono fun _ _ => RepC.mono kp.f kp.w⟩, hnF⟩
    exact ⟨_, _, F1, β, hrun (by rw [hxv]; exact hst), g2, k1.trans k2, .inr ⟨rfl, rfl⟩⟩
  · simp at h4
end ops
end
end Go.Proofs.Ytanpdkllnmeenaa.Am
namespace Go.Proofs.Ytanpdkllnmeenaa.Am
open Go Go.RowKit
set_option linter.unusedVariables false
set_option linter.unusedSectionVars false
set_option linter.unusedSimpArgs false
section
variable {P : Program} {C : Ctx} {F F' : Nat → Prop} {w w' : World} {β β' : Bd} {H H' G : Heap}
variable {L : Nat → Prop} {w0 : World} {F0 : Nat → Prop} {n : Nat} {sl : List Slot} {env : List AV} {a : Act} {o : Oper} {v : AV} {base : Nat → Prop}
theorem RowC.one {α : Type} {R : α → List Value → Prop} {k : Nat} {xs : List α} {cells : List Value} (hR : ∀ x cs, R x cs → ∀ u ∈ cs, u.oneCell' = true) (r : RowC R k xs cells) (hk : 0 < k) : ∀ u ∈ cells, u.oneCell' = true := by
  intro u hu
  obtain ⟨j, hj, rfl⟩ := List.mem_iff_getElem.1 hu
  have h1 := r.1
  have hq : j / k < xs.length := by rw [Nat.div_lt_iff_lt_mul hk]; omega
  have h2 := r.2 (j / k) _ (List.getElem?_eq_getElem hq)
  refine hR _ _ h2 _ ?_
  have hm : j % k < k := Nat.mod_lt _ hk
  have e : ((cells.drop (j / k * k)).take k)[j % k]? = some cells[j] := by
    rw [List.getElem?_take_of_lt hm, List.getElem?_drop, show j / k * k + j % k = j by rw [Nat.mul_comm]; exact Nat.div_add_mod j k, List.getElem?_eq_getElem hj]
  exact List.mem_of_getElem? e
theorem slot_cells {l : Bool} {e : TypeId} {t : Ty} {xs : List t.den} {u : Value} (hmp : t.isMp = false) (hs : SlotOk base F w β H (.row l e t xs) u) :
    ∃ A k, u = .slice A xs.length k ∧ xs.length ≤ k ∧ (xs = [] ∨ ∃ g o cells, A = some ⟨g, o, none⟩ ∧ RowC (RepC F w t) t.size xs cells ∧ w.rangeAt g o cells) := by
  cases l with
  | true =>
    obtain ⟨⟨cells, ho, hr⟩, _⟩ := hs
    rw [owns_sl hmp] at ho
    obtain ⟨hl, h | ⟨g', o', cap, cur, hv, hh, hn, hm, hz, ht⟩⟩ := ho
    · exact ⟨none, 0, by rw [h.1, h.2], by omega, .inl (List.length_eq_zero_iff.1 h.2)⟩
    · refine ⟨_, _, hv, hn, .inr ⟨g', o', cells, rfl, hr, fun j x hx => ?_⟩⟩
      rw [← ht, List.getElem?_take] at hx
      split at hx
      · simp only [World.cell?, hh]
        rw [List.getElem?_drop, Array.getElem?_toList] at hx
        simpa using hx
      · simp at hx
  | false =>
    obtain ⟨A, cap, h1, h2, h3⟩ := hs
    rw [hdr_sl hmp] at h1
    simp at h1
    exact ⟨A, cap, h1, h2, h3.imp And.left fun ⟨g, o, cells, hA, _, hr, hrange⟩ => ⟨g, o, cells, hA, hr, (lies_sl hmp).1 hrange⟩⟩
theorem row_cells (gd : Good L w0 w F0 F β H) {b : CV} {x : Value} {r : (t : Ty) × List t.den} (hr : RepV F w β H b x) (h : rowOf H b = some r) (hmp : r.1.isMp = false) :
    ∃ A k, x = .slice A r.2.length k ∧ r.2.length ≤ k ∧ (r.2 = [] ∨ ∃ g o cells, A = some ⟨g, o, none⟩ ∧ RowC (RepC F w r.1) r.1.size r.2 cells ∧ w.rangeAt g o cells) := by
  unfold rowOf at h
  split at h
  · injection h with h
    subst h
    exact slot_cells (base := fun _ => True) (l := false) (e := 0) (β := β) (H := H) hmp hr
  · split at h
    · rename_i hs
      injection h with h
      subst h
      have hG := slotAt_row hs (by simp)
      simp only [RepV, hG] at hr
      exact slot_cells hmp (gd.slot hr.1 hG)
    · simp at h
  · rename_i hh p l
    split at h
    · rename_i lv e t xs hs
      injection h with h
      subst h
      have hG := slotAt_row hs (by simp)
      simp only [RepV, hG] at hr
      obtain ⟨⟨_, r1⟩, A, c, r2, r3, r4, _⟩ := hr
      have hlen : ((xs.drop p).take l).length = l := by rw [List.length_take, List.length_drop]; omega
      refine ⟨A, c, by rw [r2]; simp only [hlen], by simp only [hlen]; omega, ?_⟩
      rcases r4 with r4 | ⟨g, q, n', k', r4, r5⟩
      · exact .inl (List.length_eq_zero_iff.1 (by simp only [hlen]; omega))
      · obtain ⟨A', k2, e1, e2, e3⟩ := slot_cells hmp (gd.slot r4 hG)
        simp at e1
        obtain ⟨rfl, rfl, rfl⟩ := e1
        rcases e3 with e3 | ⟨g2, o2, cells, h1, h3, h4⟩
        · exact .inl (by rw [e3]; simp)
        · simp at h1
          obtain ⟨rfl, rfl⟩ := h1
          exact .inr ⟨g, _, _, r5, h3.sub p l, range_cut h4 _ _⟩
    · simp at h
  · simp at h
/-! ### A map is written -/
theorem one_cells {x : Value} (h : x.oneCell' = true) : x.cells.toList = [x] := by cases x <;> first | rfl | simp [Value.oneCell'] at h
theorem setAt_heap {g : Nat} {x y : Obj} (h : w.heap[g]? = some x) : ({ w with heap := w.heap.setIfInBounds g y } : World).heap[g]? = some y := by
  have := (Array.getElem?_eq_some_iff.1 h).1
  simp [this]
theorem setOb_ne {g k : Nat} {y : Obj} (h : k ≠ g) : ({ w with heap := w.heap.setIfInBounds g y } : World).heap[k]? = w.heap[k]? := by
  simp only
  rw [Array.getElem?_setIfInBounds_ne (by omega)]
theorem setOb_below {g b : Nat} {y : Obj} (h : b ≤ g) : Below b w { w with heap := w.heap.setIfInBounds g y } := ⟨rfl, rfl, rfl, by simp, fun k hk => setOb_ne (by omega)⟩
theorem run_setMap {g n : Nat} {arr : Array MapEntry} (o : Obj) (h : w.heap[g]? = some (.map arr n)) : (setObj g o).run P w = .ok () { w with heap := w.heap.setIfInBounds g o } := by
  simp [setObj, Sem.run, h]
theorem same_int {k : IntKind} {m : Int} : Instr.sameBits 10000 (.int k m) (.int k m) = true := by
  show Instr.sameBits (9999 + 1) _ _ = true
  unfold Instr.sameBits
  simp
theorem all2_push {α γ : Type} {R : α → γ → Prop} {l : List α} {m : List γ} {a : α} {b : γ} (h : All2 R l m) (r : R a b) : All2 R (l ++ [a]) (m ++ [b]) := h.append (.cons r .nil)
/-- A store into a map. -/
theorem run_mapSet {t kt vt : TypeId} {k : IntKind} {v : Ty} {i : TypeInfo} {z : Value} {m : Int} {y : v.den} {x : Value} (ht : P.underlying t = some (.map kt vt)) (mk : MOk P kt vt k v i z) {g : Nat} {arr : Array MapEntry} {xs : List (Unit × Int × v.den)}
    (ha : w.heap[g]? = some (.map arr arr.size)) (hm : MapR F w k v arr xs) (hx : ValR F w v x y) : ∃ arr' : Array MapEntry, (Instr.mapUpdate t (.map (some g)) (.int k m) x).run P w = .ok () { w with heap := w.heap.setIfInBounds g (.map arr' arr'.size) } ∧ MapR F w k v arr' (mset xs m y) := by
  rcases find_ok (m := m) 0 hm.2 with ⟨e1, e2, _, e4⟩ | ⟨e1, j, e, x0, a1, a2, a3, a4, a5, _, a7⟩
  · refine ⟨arr.push { key := .int k m, val := x, born := arr.size }, ?_, ?_⟩
    · simp [Instr.mapUpdate, run_underlying ht, run_getObj ha, run_checkKey (m := m) mk.key, run_findKey (m := m) mk.key e2, run_setMap _ ha]
    · rw [e4]
      refine ⟨fun i e he => ?_, ?_⟩
      · rw [Array.getElem?_push] at he
        split at he
        · rename_i hi
          injection he with he
          subst he
          exact hi.symm
        · exact hm.1 i e he
      · rw [Array.toList_push]
        exact all2_push hm.2 ⟨rfl, hx⟩
  · have he : arr[j]? = some e := by rwa [Array.getElem?_toList] at a1
    have hj := (Array.getElem?_eq_some_iff.1 he).1
    refine ⟨arr.modify j fun e => { e with key := .int k m, val := x }, ?_, ?_⟩
    · rw [Nat.zero_add] at a5
      have hke : Instr.sameBits 10000 (((arr[j]?).map (·.key)).getD (.int k m)) (.int k m) = true := by rw [he]; simp only [Option.map_some, Option.getD_some]; rw [a3.1, a4]; exact same_int
      simp [Instr.mapUpdate, run_underlying ht, run_getObj ha, run_checkKey (m := m) mk.key, run_findKey (m := m) mk.key a5, Instr.keyThatStays, hke, run_setMap _ ha]
    · rw [a7]
      refine ⟨fun i e' he' => ?_, ?_⟩
      · rw [Array.getElem?_modify] at he'
        split at he'
        · rename_i hi
          subst hi
          rw [he] at he'
          simp at he'
          subst he'
          exact hm.1 j e he
        · exact hm.1 i e' he'
      · have : (arr.modify j fun e => { e with key := .int k m, val := x }).toList = arr.toList.set j { e with key := .int k m, val := x } := by
          apply List.ext_getElem?
          intro q
          rw [Array.getElem?_toList, Array.getElem?_modify]
          by_cases hq : j = q
          · subst hq
            rw [if_pos rfl, he, List.getElem?_set_self (by simpa using hj)]
            rfl
          · rw [if_neg hq, List.getElem?_set_ne hq, Array.getElem?_toList]
        rw [this]
        exact hm.2.set ⟨rfl, hx⟩ j
section ops
variable (gd : Good L w0 w F0 F β H) (hE : ∀ x ∈ o.op.operands, OpOk F w β H env a x) (cx : CtxOk P C)
include gd hE cx
theorem e_map {t : TypeId} {m key x : Operand} (ho : o.op = .mapUpdate t m key x ∨ o.op = .insert t m key x) (h : mapK C env H t m key x = some H') (hv : v = .undef) : EPost (L := L) P w0 w F0 F β H o a v H' := by
  subst hv
  simp only [mapK, Option.bind_eq_some_iff] at h
  obtain ⟨T, hT, c, h1, j, h2, q, h3, u, h4, us, h5, hh, hc, h6⟩ := h
  have hc := asRef_ok hc
  subst hc
  obtain ⟨d, it, z, tk⟩ := cx.ty _ _ hT
  have hmem : ∀ y ∈ [m, key, x], OpOk F w β H env a y := fun y hy => hE y (by rcases ho with e | e <;> rw [e] <;> simp [Op.operands] at hy ⊢ <;> exact hy)
  have rm := (hmem m (by simp)).cell h1
  have ek : a.eval key = .int q.1 q.2 := (hmem key (by simp)).cell (c := .int q.1 q.2) (by rw [h2, intOf_some h3])
  have rx := hmem x (by simp) _ h4
  have hrun : ∀ {w'}, (Instr.mapUpdate t (a.eval m) (a.eval key) (a.eval x)).run P w = .ok () w' → (execOp a.eval o).run P w = .ok .skip w' := fun {w'} h => by
    rcases ho with e | e <;> simp [execOp, e, h]
  simp only [storeM, Option.bind_eq_some_iff] at h6
  obtain ⟨p, hp, h7⟩ := h6
  split at h7
  case h_2 => simp at h7
  rename_i e k v0 xs hs
  split at h7
  case isFalse => simp at h7
  rename_i hc
  obtain ⟨rfl, hk, hag⟩ := hc
  simp only [Option.map_eq_some_iff] at h7
  obtain ⟨y, hy, rfl⟩ := h7
  obtain ⟨F1, g1, k1, r2⟩ := frzL_ok (cs' := p.1) (H' := p.2) gd (cells_ok h5 rx) hp
  have hH2 := slotAt_row hs (by simp)
  have rm1 := rm.mono k1
  simp only [RepV, hH2] at rm1
  obtain ⟨⟨cells, ho', hrow⟩, hnF⟩ := g1.slot rm1.1 hH2
  obtain ⟨g, arr, hu, harr, hm⟩ := own_map ho' hrow
  obtain ⟨kt, vt, i', z', hd, mk⟩ := tk.mp _ _ rfl
  have hry := rep_unflat1 hy r2
  have hval : ValR F1 w v0 (a.eval x) y := by
    unfold ValR
    cases u with
    | one c =>
      have hf : v0.isAgg = false := by rw [← hag]; rfl
      simp only [hf]
      have h1 := RepV.one rx
      rw [one_cells h1] at hry
      exact hry
    | agg cs =>
      have hf : v0.isAgg = true := by rw [← hag]; rfl
      simp only [hf]
      obtain ⟨ws, hws, _⟩ := rx
      rw [hws] at hry ⊢
      exact ⟨ws, rfl, hry⟩
    | _ => simp [AV.cells] at h5
  obtain ⟨arr', hr', hm'⟩ := run_mapSet (m := q.2) (by rw [← hd]; exact tk.und) mk harr hm hval
  obtain ⟨g2, k2⟩ := good_write (w' := { w with heap := w.heap.setIfInBounds g (.map arr' arr'.size) }) g1 hH2 rfl rm1.1 (g := g) (by rw [hu]; rfl) (s' := .row true e (.mpe k v0) (mset xs q.2 y)) ⟨rfl, fun h => by simp [Ty.isMp] at h, id⟩ (setOb_below (Nat.zero_le _)) (by simp) (fun k hk => setOb_ne hk) fun kp => by
    have hm2 : MapR F1 { w with heap := w.heap.setIfInBounds g (.map arr' arr'.size) } k v0 arr' (mset xs q.2 y) := by
      refine ⟨hm'.1, hm'.2.mono fun e x hx => ⟨hx.1, ?_⟩⟩
      have h2 := hx.2
      unfold ValR at h2 ⊢
      cases hv : v0.isAgg with
      | true =>
        simp only [hv] at h2 ⊢
        obtain ⟨b, e1, e2⟩ := h2
        exact ⟨b, e1, e2.mono kp.f kp.w⟩
      | false =>
        simp only [hv] at h2 ⊢
        exact h2.mono kp.f kp.w
    obtain ⟨cells', hl, hrw⟩ := map_lies (o := 0) (setAt_heap harr) hm2
    refine ⟨⟨cells', ?_, hrw⟩, hnF⟩
    simp only [OwnsT, Ty.isMp]
    exact ⟨g, hu, hl⟩
  exact ⟨_, _, F1, β, hrun (by rw [hu, ek, hk]; exact hr'), g2, k1.trans k2, .inr ⟨rfl, rfl⟩⟩
end ops
/-! ### append onto a row of one's own -/
section
variable {P : Program} (w : World)
theorem run_append_room_at (t ty e : TypeId) (i : TypeInfo) (ht : P.underlying t = some (.slice e)) (hi : P.info? e = some i)
    (g o sLen sCap : Nat) (cur : Array Value) (hg : w.heap[g]? = some (.cells cur e (0, 0)))
    (a : Addr) (m c : Nat) (news : List Value) (hl : news.length = m * i.size) (hnews : ∀ j u, news[j]? = some u → w.cell? (a.add j) = some u) (h1 : ∀ u ∈ news, u.oneCell' = true)
    (hroom : sLen + m ≤ sCap) (hfit : o + sLen * i.size + news.length ≤ cur.size) :
    (Builtin.append_ #[t, t] ty #[.slice (some ⟨g, o, none⟩) sLen sCap, .slice (some a) m c]).run P w =
      .ok (.slice (some ⟨g, o, none⟩) (sLen + m) sCap) (w.setRow g (cur.toList.take (o + sLen * i.size) ++ news ++ cur.toList.drop (o + sLen * i.size + news.length)).toArray) := by
  have hf := run_firstCells_some (P := P) w i.size m a m c news hl hnews
  have hst := run_storeCells_at P g (o + sLen * i.size) e news 0 cur w hg (by simpa using hfit) h1
  simp only [Nat.add_zero] at hst
  simp [Builtin.append_, run_underlying ht, sizeOf, typeInfo, hi, Builtin.lenOf, hroom, hf, Addr.add_mid, hst]
theorem run_append_at (t ty : TypeId) (e : TypeId) (i : TypeInfo) (z : Value) (size bytes : Nat) (ht : P.underlying t = some (.slice e)) (hi : P.info? e = some i) (hz : i.zero = some z)
    (hsize : i.size = size) (hby : i.bytes = bytes) (hzs : z.cells.size = size) (hsz : 0 < size)
    (v : Value) (n : Nat) (xs : List Value) (hown : ownsAt w e size v n xs)
    (a : Addr) (m c : Nat) (news : List Value) (hl : news.length = m * size) (hnews : ∀ j u, news[j]? = some u → w.cell? (a.add j) = some u) (h1 : ∀ u ∈ news, u.oneCell' = true)
    (hm0 : 0 < m) (h63 : n + m ≤ maxLen) (hbytes : (n + m) * bytes ≤ 140737488355328) :
    ∃ v' w', (Builtin.append_ #[t, t] ty #[v, .slice (some a) m c]).run P w = .ok v' w' ∧ ownsAt w' e size v' (n + m) (xs ++ news) ∧ w.grownBy w' v.ownBlock ∧ (∀ g, blk v' = some g → v.ownBlock = some g ∨ w.heap.size ≤ g) := by
  subst hsize
  subst hby
  have hsmall : n + m ≤ 9223372036854775807 := by simp only [maxLen] at h63; omega
  have hlen : (xs ++ news).length = (n + m) * i.size := by rw [List.length_append, hown.1, hl, Nat.add_mul]
  have grown : ∀ (old : Nat), old < n + m → ∀ (row : Option Nat),
      (w.drew.alloc (.cells (xs.toArray ++ news.toArray ++ Builtin.zeroCells z.cells (grownCap w (n + m) old e - (n + m))) e)).ownsRow 0 e i.size
        (.slice (some ⟨w.heap.size, 0, none⟩) (n + m) (grownCap w (n + m) old e)) (n + m) (xs ++ news) ∧
      w.grownBy (w.drew.alloc (.cells (xs.toArray ++ news.toArray ++ Builtin.zeroCells z.cells (grownCap w (n + m) old e - (n + m))) e)) row := by
    intro old ho row
    have hge := grownCap_ge w (n + m) old e
    have hcm : grownCap w (n + m) old e ≤ maxLen := grownCap_le_maxLen w (n + m) old e h63
    refine ⟨⟨hlen, .inr ⟨w.heap.size, _, _, rfl, Nat.zero_le _, Go.heap_alloc_new w.drew _, hge, hcm, ?_, ?_⟩⟩, ⟨rfl, rfl, rfl, by simp, fun k hk _ => heap_alloc_old w.drew _ hk⟩⟩
    · simp only [Array.size_append, List.size_toArray, size_zeroCells, hzs, hown.1, hl, ← Nat.add_mul]
      congr 1
      omega
    · simp only [Array.toList_append, List.append_assoc]
      rw [← List.append_assoc, ← hlen]
      exact List.take_left
  have new : ∀ g : Nat, blk (.slice (some ⟨w.heap.size, 0, none⟩) (n + m) 0) = some g → w.heap.size ≤ g := fun g h => by simp [blk] at h; omega
  rcases hown.2 with ⟨rfl, rfl⟩ | ⟨g, o, cap, cur, rfl, hg, hnc, hcm, hcs, htake⟩
  · have hx : xs = [] := List.eq_nil_of_length_eq_zero (by simpa using hown.1)
    subst hx
    have hr := run_append_nil (P := P) w t ty e i z ht hi hz a m c news hl hnews (by omega) (by omega) (by have hb := hbytes; simp only [Nat.zero_add] at hb; omega)
    have hgr := grown 0 (by omega) (Value.ownBlock (.slice none 0 0))
    simp only [Nat.zero_add, List.nil_append, Array.empty_append] at hgr ⊢
    exact ⟨_, _, hr, own_of hgr.1, hgr.2, fun g h => .inr (by simp [blk] at h; omega)⟩
  · by_cases hroom : n + m ≤ cap
    · have hmul : (n + m) * i.size ≤ cap * i.size := Nat.mul_le_mul_right _ hroom
      rw [Nat.add_mul] at hmul
      have hfit : o + n * i.size + news.length ≤ cur.size := by rw [hl]; omega
      have hr := run_append_room_at (P := P) w t ty e i ht hi g o n cap cur hg a m c news hl hnews h1 hroom hfit
      have hdp := drop_patch (c := cur.toList) (L := news) (o := o) (a := n * i.size) (by simp; omega)
      refine ⟨_, _, hr, ⟨hlen, .inr ⟨g, o, cap, _, rfl, setRow_heap w g cur _ e _ hg, hroom, hcm, ?_, ?_⟩⟩, ⟨rfl, rfl, rfl, by simp, fun k _ hk => setRow_other w g k _ (fun e => hk (by simp [Value.ownBlock, e]))⟩, fun g' h => .inl (by simp [blk] at h; simp [Value.ownBlock, h])⟩
      · simp only [List.size_toArray, List.length_append, List.length_take, List.length_drop, Array.length_toList]
        omega
      · simp only [hdp]
        rw [htake, ← hlen]
        exact List.take_left
    · have holds : ∀ j u, xs[j]? = some u → w.cell? ((⟨g, o, none⟩ : Addr).add j) = some u := fun j u hu => by
        rw [Addr.add_mid, cell_of_row w g (o + j) cur e (0, 0) hg]
        rw [← htake, List.getElem?_take] at hu
        split at hu
        · rw [List.getElem?_drop, Array.getElem?_toList] at hu
          exact hu
        · cases hu
      have hr := run_append_grow (P := P) w t ty e i z ht hi hz ⟨g, o, none⟩ n cap xs hown.1 holds a m c news hl hnews (by omega) (by omega) (growslice_fits (by omega) hbytes)
      have hgr := grown cap (by omega) (Value.ownBlock (.slice (some ⟨g, o, none⟩) n cap))
      exact ⟨_, _, hr, own_of hgr.1, hgr.2, fun g h => .inr (by simp [blk] at h; omega)⟩
end
theorem blk_own {u : Value} {A : Option Addr} {k c : Nat} (h : u = .slice A k c) : blk u = u.ownBlock := by subst h; cases A <;> rfl
section ops
variable (gd : Good L w0 w F0 F β H) (hE : ∀ x ∈ o.op.operands, OpOk F w β H env a x) (cx : CtxOk P C)
include gd hE cx
theorem append_run {ty : TypeId} {t : Ty} {xs ys : List t.den} {u x : Value} {d : TypeDesc} {it : TypeInfo} {z' : Value} (tk : TOk P C ty (.sl t) d it z') (hmp : t.isMp = false) {cells : List Value} (hown : ownsAt w (C.el t) t.size u xs.length cells) (hrow : RowC (RepC F w t) t.size xs cells)
    {A : Option Addr} {k : Nat} (hx : x = .slice A ys.length k) (hA : ys = [] ∨ ∃ g o cells, A = some ⟨g, o, none⟩ ∧ RowC (RepC F w t) t.size ys cells ∧ w.rangeAt g o cells) (hlen : (xs ++ ys).length < 1099511627776) (ty' : TypeId) :
    ∃ u' w' news, (Builtin.append_ #[ty, ty] ty' #[u, x]).run P w = .ok u' w' ∧ ownsAt w' (C.el t) t.size u' (xs ++ ys).length (cells ++ news) ∧ RowC (RepC F w t) t.size ys news ∧ w.grownBy w' u.ownBlock ∧ (∀ g, blk u' = some g → u.ownBlock = some g ∨ w.heap.size ≤ g) := by
  obtain ⟨hd, ie, z, ek⟩ := tk.sl _ rfl hmp
  subst hd
  have hb := ek.bytes
  obtain ⟨A0, c0, hu, hle⟩ : ∃ A c, u = .slice A xs.length c ∧ xs.length ≤ c := by
    obtain ⟨_, h | ⟨g, o, cap, cur, h, _, h2, _⟩⟩ := hown
    · exact ⟨none, 0, by rw [h.1, h.2], by omega⟩
    · exact ⟨_, cap, h, h2⟩
  rcases Nat.eq_zero_or_pos ys.length with hz | hpos
  · have hy : ys = [] := List.length_eq_zero_iff.1 hz
    subst hy
    have src : Src P ie.size ty x 0 [] w := by
      refine ⟨.inl ⟨_, tk.und⟩, fun w' => by rw [hx]; rfl, ?_, ?_, by simp, fun u hu => by simp at hu⟩
      · rw [hx]; cases A with
        | none => rfl
        | some ad => simp [Builtin.firstCells, loadCells, loadCellsFrom]
      · rw [hx]; cases A with
        | none => rfl
        | some ad => simp [Builtin.firstCells, loadCells, loadCellsFrom]
    have := run_append_nothing w ty ty ty' (C.el t) ie tk.und ek.info A0 xs.length c0 hle x src
    refine ⟨u, w, [], by rw [hu]; exact this, by simpa using hown, ⟨by simp, fun i x h => by simp at h⟩, ⟨rfl, rfl, rfl, Nat.le_refl _, fun _ _ _ => rfl⟩, fun g hg => .inl ?_⟩
    rw [← blk_own hu]; exact hg
  · rcases hA with hA | ⟨g, off, news, rfl, hrn, hrange⟩
    · subst hA; simp at hpos
    · have h1 := hrn.one (fun _ _ h => h.one) ek.pos
      rw [List.length_append] at hlen
      have hbytes : (xs.length + ys.length) * ie.bytes ≤ 140737488355328 := by
        have : (xs.length + ys.length) * ie.bytes ≤ (xs.length + ys.length) * 64 := Nat.mul_le_mul_left _ hb
        omega
      obtain ⟨u', w', hr, ho, hg, hor⟩ := run_append_at w ty ty' (C.el t) ie z t.size ie.bytes tk.und ek.info ek.zero ek.size rfl ek.zsize ek.pos u xs.length cells hown ⟨g, off, none⟩ ys.length k news hrn.1 (fun j u hu => by rw [Addr.add_mid]; exact hrange j u hu) h1 hpos (by simp [maxLen]; omega) hbytes
      exact ⟨u', w', news, by rw [hx]; exact hr, by rw [List.length_append]; exact ho, hrn, hg, hor⟩
theorem e_append {t1 : TypeId} {t : Ty} {s x : Operand} {args : Array Operand} {ats : Array TypeId} {h : Nat} {b : CV} {xs ys : List t.den} {r : (t : Ty) × List t.den} (ho : o.op = .call { callee := .builtin .append, args, argTypes := ats }) (ha : args.toList = [s, x]) (hat : ats.toList = [t1, t1])
    (hT : C.ty t1 = some (.sl t)) (hmp : t.isMp = false) (h1 : oprC env s = some (.ref h)) (h2 : oprC env x = some b) (hs : slotAt H h = .row true (C.el t) t xs) (h3 : rowOf H b = some r) (h4 : castRow t r = some ys) (hlen : (xs ++ ys).length < 1099511627776)
    (hv : v = .one (.ref H.length)) (hH' : H' = (H.set h .dead) ++ [Slot.row true (C.el t) t (xs ++ ys)]) : EPost (L := L) P w0 w F0 F β H o a v H' := by
  subst hv hH'
  obtain ⟨d, it, z, tk⟩ := cx.ty _ _ hT
  have hargs : args = #[s, x] := Array.toList_inj.mp ha
  have hats : ats = #[t1, t1] := Array.toList_inj.mp hat
  subst hargs hats
  have rs := (hE s (by rw [ho]; simp [Op.operands, Call.operands])).cell h1
  have rx := (hE x (by rw [ho]; simp [Op.operands, Call.operands])).cell h2
  have hH := slotAt_row hs (by simp)
  simp only [RepV, hH] at rs
  obtain ⟨hb, _⟩ := rs
  obtain ⟨⟨cells, hown, hrow⟩, hnF⟩ := gd.slot hb hH
  rw [owns_sl hmp] at hown
  have hrm : r.1.isMp = false := by
    unfold castRow at h4
    split at h4
    · rename_i e; rw [e]; exact hmp
    · simp at h4
  obtain ⟨A, k, hxv, hk, hA⟩ := row_cells gd rx h3 hrm
  unfold castRow at h4
  split at h4
  case isFalse => simp at h4
  rename_i hr1
  injection h4 with h4
  rcases r with ⟨t', ys'⟩
  simp at hr1
  subst hr1
  simp at h4
  subst h4
  obtain ⟨u', w', news, hrun, hown', hrn, hg, hblk⟩ := append_run gd hE cx tk hmp hown hrow (ys := ys') hxv hA hlen o.type
  have hexec : (execOp a.eval o).run P w = .ok (.value u') w' := by
    simp [execOp, ho, resolve, invoke, builtin, hrun]
  have hsl : ∃ A c, a.eval s = .slice A xs.length c := by
    obtain ⟨_, h | ⟨g, o, cap, cur, h, _⟩⟩ := hown
    · exact ⟨none, 0, by rw [h.1, h.2]⟩
    · exact ⟨_, _, h⟩
  obtain ⟨A0, c0, hsl⟩ := hsl
  have hbo := blk_own hsl
  have hFne : ∀ g, F g → some g ≠ (a.eval s).ownBlock := fun g hg e => (hnF g (by rw [hbo]; exact e.symm)).2 hg
  have hFw : ∀ g, F g → w'.heap[g]? = w.heap[g]? := fun g hg' => hg.block g (gd.fsz g hg') (hFne g hg')
  have hlast : ((H.set h .dead) ++ [Slot.row true (C.el t') t' (xs ++ ys')])[H.length]? = some (.row true (C.el t') t' (xs ++ ys')) := by
    rw [List.getElem?_append_right (by simp)]; simp
  have hold : ∀ {q : Nat} {s' : Slot}, q ≠ h → H[q]? = some s' → ((H.set h .dead) ++ [Slot.row true (C.el t') t' (xs ++ ys')])[q]? = some s' := fun {q s'} hq hs' => by
    have := (List.getElem?_eq_some_iff.1 hs').1
    rw [List.getElem?_append_left (by simpa using this), set_ne hq]; exact hs'
  have hdead : ((H.set h .dead) ++ [Slot.row true (C.el t') t' (xs ++ ys')])[h]? = some .dead := by
    have := (List.getElem?_eq_some_iff.1 hH).1
    rw [List.getElem?_append_left (by simpa using this)]; exact set_at hH
  have hext : ∀ q u, β q = some u → ext β H.length [u'] q = some u := fun q u => ext_old fun j _ => free_end gd j
  have kp : Keeps F F w w' β (ext β H.length [u']) H ((H.set h .dead) ++ [Slot.row true (C.el t') t' (xs ++ ys')]) := by
    refine ⟨fun _ h => h, hFw, hext, fun q s' hs' => ?_⟩
    by_cases hq : q = h
    · subst hq; exact ⟨_, hdead, by cases s' <;> trivial⟩
    · exact ⟨s', hold hq hs', like_refl _⟩
  have inv : ∀ {q : Nat} {s' : Slot} {u : Value}, β q = some u → ((H.set h .dead) ++ [Slot.row true (C.el t') t' (xs ++ ys')])[q]? = some s' → s'.isLive = true → q ≠ h ∧ H[q]? = some s' := fun {q s' u} hb' hs' hl' => by
    by_cases hq : q = h
    · subst hq; rw [hdead] at hs'; injection hs' with hs'; subst hs'; simp [Slot.isLive] at hl'
    · obtain ⟨s2, e2, _⟩ := gd.dom _ _ hb'
      have := hold hq e2
      rw [hs'] at this
      injection this with this
      subst this
      exact ⟨hq, e2⟩
  refine ⟨_, w', F, _, hexec, ⟨?_, fun g hg' => Nat.lt_of_lt_of_le (gd.fsz g hg') hg.size, gd.f0, gd.f1, fun q u hu => ?_, fun q q' s1 s2 u1 u2 g e1 e2 l1 l2 b1 b2 g1 g2 => ?_⟩, kp, .inl ⟨u', rfl, ?_⟩⟩
  · exact gd.below.write hg.os hg.tape hg.output hg.size fun q hq hn => hg.block q hq fun e => hn ((gd.slot hb hH).lt rfl (g := q) (by rw [hbo]; exact e.symm)).1
  · rcases ext_some hu with ⟨j, rfl, hj⟩ | hu'
    · cases j with
      | zero =>
        simp at hj
        subst hj
        refine ⟨_, hlast, ⟨⟨_, (owns_sl hmp).2 hown', (hrow.append hrn).mono fun _ _ => RepC.mono (fun _ h => h) hFw⟩, fun g hg' => ?_⟩⟩
        rcases hblk g hg' with e | e
        · exact hnF g (by rw [hbo]; exact e)
        · exact ⟨.inl (Nat.le_trans gd.below.size e), fun hF => by have := gd.fsz g hF; omega⟩
      | succ j => simp at hj
    · by_cases hq : q = h
      · subst hq; exact ⟨_, hdead, trivial⟩
      · obtain ⟨s1, e1, e2⟩ := gd.dom q u hu'
        refine ⟨s1, hold hq e1, e2.keep kp fun hl' g hg' => ⟨hg.block g (e2.lt hl' hg').2.1 fun e => hq ?_, id⟩⟩
        exact gd.sep q h _ _ u _ g e1 hH hl' rfl hu' hb hg' (by rw [hbo]; exact e.symm)
  · rcases ext_some b1 with ⟨j, rfl, hj⟩ | b1
    · rcases ext_some b2 with ⟨j', rfl, hj'⟩ | b2
      · have h1 := (List.getElem?_eq_some_iff.1 hj).1
        have h2 := (List.getElem?_eq_some_iff.1 hj').1
        simp at h1 h2
        omega
      · obtain ⟨hq, e3⟩ := inv b2 e2 l2
        cases j with
        | succ j => simp at hj
        | zero =>
          simp at hj
          subst hj
          rcases hblk g g1 with e | e
          · exact absurd (gd.sep _ h _ _ _ _ g e3 hH l2 rfl b2 hb g2 (by rw [hbo]; exact e)) hq
          · have := ((gd.slot b2 e3).lt l2 g2).2.1; omega
    · obtain ⟨hq, e3⟩ := inv b1 e1 l1
      rcases ext_some b2 with ⟨j', rfl, hj'⟩ | b2
      · cases j' with
        | succ j => simp at hj'
        | zero =>
          simp at hj'
          subst hj'
          rcases hblk g g2 with e | e
          · exact absurd (gd.sep _ h _ _ _ _ g e3 hH l1 rfl b1 hb g1 (by rw [hbo]; exact e)) hq
          · have := ((gd.slot b1 e3).lt l1 g1).2.1; omega
      · obtain ⟨hq', e4⟩ := inv b2 e2 l2
        exact gd.sep q q' s1 s2 u1 u2 g e3 e4 l1 l2 b1 b2 g1 g2
  · simp only [RepA, RepV, hlast]
    refine ⟨by have := ext_new (β := β) (n := H.length) (us := [u']) (j := 0) (u := u') rfl; simpa using this, ?_⟩
    obtain ⟨_, h | ⟨g, o, cap, cur, h, _⟩⟩ := hown'
    · rw [h.1]; rfl
    · rw [h]; rfl
end ops
theorem fillF_ok {e : Ty} {k : Nat} :
    ∀ (parts : List (Nat × Operand)) (xs : List e.den) (cells : Array Value) {xs' : List e.den} {F : Nat → Prop} {H H' : Heap}, Good L w0 w F0 F β H → (∀ q ∈ parts, OpOk F w β H env a q.2) → foldF e env parts xs H = some (xs', H') → RowC (RepC F w e) e.size xs cells.toList → xs.length = k →
      ∃ F' cells', Good L w0 w F0 F' β H' ∧ Keeps F F' w w β β H H' ∧ Instr.fill (fun i => some (i * e.size, e.size)) cells (parts.map fun q => (q.1, a.eval q.2)) = some cells' ∧ RowC (RepC F' w e) e.size xs' cells'.toList ∧ xs'.length = k
  | [], xs, cells, xs', F, H, H', gd, _, h, r, hk => by
    simp [foldF] at h
    obtain ⟨rfl, rfl⟩ := h
    exact ⟨F, cells, gd, ⟨fun _ h => h, fun _ _ => rfl, fun _ _ h => h, fun h s hs => ⟨s, hs, like_refl s⟩⟩, rfl, r, hk⟩
  | (i, x) :: rest, xs, cells, xs', F, H, H', gd, hE, h, r, hk => by
    simp only [foldF, Option.bind_eq_some_iff] at h
    obtain ⟨v, h2, us, h3, p, hp, y, h4, h5⟩ := h
    split at h5
    case isFalse => simp at h5
    rename_i hi
    obtain ⟨F1, g1, k1, r1⟩ := frzL_ok (cs' := p.1) (H' := p.2) gd (cells_ok h3 (hE (i, x) (by simp) _ h2)) hp
    have hx := rep_unflat1 h4 r1
    have hl := hx.len
    have r0 := r.mono fun _ _ h => RepC.mono k1.f k1.w h
    have hle : i * e.size + e.size ≤ cells.size := by
      have := Nat.mul_le_mul_right e.size (show i + 1 ≤ xs.length from hi)
      have h := r.1
      rw [Nat.add_mul] at this
      simp only [Array.length_toList] at h
      omega
    have hz := zip_fold (i * e.size) (a.eval x).cells cells (by simp at hl; omega)
    have hr : RowC (RepC F1 w e) e.size (xs.set i y) ((a.eval x).cells.zipIdx.foldl (fun cs (p : Value × Nat) => cs.setIfInBounds (i * e.size + p.2) p.1) cells).toList := by
      have := r0.set hi hl hx
      rw [hz]
      simp only [Array.length_toList] at hl
      rw [hl]
      exact this
    obtain ⟨F2, cells', g2, k2, h6, h7, h8⟩ := fillF_ok rest _ _ g1 (fun q hq v hv => (hE q (by simp [hq]) v hv).mono k1) h5 hr (by simpa using hk)
    refine ⟨F2, cells', g2, k1.trans k2, ?_, h7, h8⟩
    simp only [Array.length_toList] at hl
    simp only [List.map_cons, Instr.fill]
    rw [if_neg (by simp; omega)]
    exact h6
section ops
variable (gd : Good L w0 w F0 F β H) (hE : ∀ x ∈ o.op.operands, OpOk F w β H env a x) (cx : CtxOk P C)
include gd hE cx
theorem run_buildSlice' {ty : TypeId} {t : Ty} {len : Nat} {parts : Array (Nat × Operand)} {d : TypeDesc} {it : TypeInfo} {z' : Value} (tk : TOk P C ty (.sl t) d it z') (hmp : t.isMp = false) {ie : TypeInfo} {z : Value} (ek : EOk P (C.el t) t ie z) (ho : o.op = .buildSlice ty len parts) (h2 : len * t.size ≤ 16777216) {cells' : Array Value}
    (hf : Instr.fill (fun i => some (i * t.size, t.size)) (madeCells z.cells (len * t.size)) (parts.toList.map fun q => (q.1, a.eval q.2)) = some cells') :
    (execOp a.eval o).run P w = .ok (.value (.slice (some ⟨w.heap.size, 0, none⟩) len len)) (w.alloc (.cells cells' (C.el t))) := by
  obtain ⟨hd, _⟩ := tk.sl _ rfl hmp
  subst hd
  have hsz : (sizeOf (C.el t)).run P w = .ok t.size w := by simp [sizeOf, run_typeInfo w ek.info, ek.size]
  have hle : ¬ (2 ^ 24 < len * t.size) := by omega
  have e0 : (parts.map fun q => (q.1, a.eval q.2)).toList = parts.toList.map fun q => (q.1, a.eval q.2) := by simp
  by_cases hz : len * t.size = 0
  · have hm : (Array.range (len * t.size)).map (fun i => (#[] : Array Value)[i % (#[] : Array Value).size]!) = madeCells z.cells (len * t.size) := by rw [hz]; simp [madeCells]
    have hf' := hf
    rw [← hm, ← e0] at hf'
    simp only [execOp, ho, Instr.buildSlice, run_underlying tk.und, hsz, Sem.run_bind, Sem.run_pure, Result.andThen_ok, Sem.run_ite, hz, if_false, if_true, gt_iff_lt, Nat.not_lt_zero]
    rw [hz] at hf'
    simp only [hf', run_newRow, Result.andThen_ok, Sem.run_pure, Sem.run_bind]
  · have hf' := hf
    rw [← e0] at hf'
    simp only [execOp, ho, Instr.buildSlice, run_underlying tk.und, hsz, Sem.run_bind, Sem.run_pure, Result.andThen_ok, Sem.run_ite, hle, if_false, hz, gt_iff_lt, run_zero ek.info ek.zero]
    simp only [madeCells] at hf'
    simp only [hf', run_newRow, Result.andThen_ok, Sem.run_pure, Sem.run_bind]
theorem e_buildSlice {ty : TypeId} {t : Ty} {len : Nat} {parts : Array (Nat × Operand)} {p : List t.den × Heap} (ho : o.op = .buildSlice ty len parts) (hT : C.ty ty = some (.sl t)) (hmp : t.isMp = false) (h1 : foldF t env parts.toList (List.replicate len t.dflt) H = some p)
    (h2 : len * t.size ≤ 16777216) (hv : v = .one (.ref p.2.length)) (hH' : H' = p.2 ++ [Slot.row true (C.el t) t p.1]) : EPost (L := L) P w0 w F0 F β H o a v H' := by
  subst hv hH'
  obtain ⟨d, i', z', tk⟩ := cx.ty _ _ hT
  obtain ⟨hd, ie, z, ek⟩ := tk.sl _ rfl hmp
  have hmem : ∀ q ∈ parts.toList, q.2 ∈ o.op.operands := fun q hq => by
    rw [ho]
    simp only [Op.operands, List.mem_toArray, List.mem_map]
    exact ⟨q, hq, rfl⟩
  obtain ⟨F1, cells', g1, k1, hf, hr, hlen⟩ := fillF_ok (xs' := p.1) (H' := p.2) parts.toList _ (madeCells z.cells (len * t.size)) gd (fun q hq => hE q.2 (hmem q hq)) h1 (row_made ek F w len) (List.length_replicate ..)
  have hrun := run_buildSlice' gd hE cx tk hmp ek ho h2 hf
  obtain ⟨g2, k2⟩ := good_more g1 [Slot.row true (C.el t) t p.1]
  have hc := hr.1
  rw [hlen] at hc
  have hm : len ≤ maxLen := by have := ek.pos; have := Nat.le_mul_of_pos_right len this; simp [maxLen]; omega
  have hlast : (p.2 ++ [Slot.row true (C.el t) t p.1])[p.2.length]? = some (.row true (C.el t) t p.1) := by rw [List.getElem?_append_right (by omega)]; simp
  have hnF : ¬ F1 w.heap.size := fun h => Nat.lt_irrefl _ (g1.fsz _ h)
  have q : QPost P (Bs L w0) F1 w β (p.2 ++ [Slot.row true (C.el t) t p.1]) p.2.length o a (.one (.ref p.2.length)) [Slot.row true (C.el t) t p.1] := by
    refine ⟨_, _, [.slice (some ⟨w.heap.size, 0, none⟩) len len], hrun, rfl, ⟨below_alloc' _, fun h => by simp at h⟩, fun q u g hu hg => ?_, fun β' hb hβ => ?_⟩
    · cases q with
      | zero => simp at hu; subst hu; simp [blk] at hg; subst hg; exact ⟨rfl, Nat.le_refl _, by simp⟩
      | succ q => simp at hu
    · have h0' := hβ 0 _ rfl
      rw [Nat.add_zero] at h0'
      refine ⟨fun q s u hs hu => ?_, ?_⟩
      · cases q with
        | zero =>
          simp at hs hu
          subst hs hu
          refine ⟨⟨cells'.toList, (owns_sl hmp).2 (own_of ⟨by rw [hlen]; exact hc, .inr ⟨w.heap.size, len, _, by rw [hlen], Nat.zero_le _, alloc_at _, by omega, hm, by simpa using hc, ?_⟩⟩), ?_⟩, fun g hg => ?_⟩
          · rw [hlen, List.take_of_length_le (by omega)]
          · exact hr.mono fun _ _ => RepC.mono (fun _ h => h) (fun g hg => (below_alloc' _).block g (g1.fsz g hg))
          · simp [blk] at hg
            subst hg
            exact ⟨.inl g1.below.size, hnF⟩
        | succ q => simp at hs
      · simp only [RepA, RepV, hlast]
        exact ⟨h0', rfl⟩
  have pre : Pre L w0 w F0 F1 β p.2 (p.2 ++ [Slot.row true (C.el t) t p.1]) p.2.length [Slot.row true (C.el t) t p.1] := ⟨g2, fun h s hs _ => by rw [List.getElem?_append_left (List.getElem?_eq_some_iff.1 hs).1]; exact hs, fun j s hs => by rw [List.getElem?_append_right (by omega)]; simpa using hs⟩
  obtain ⟨v', w', β', hrun', g3, k3, r3, _, _⟩ := good_quiet pre (fun j _ => free_end g1 j) q
  exact ⟨_, w', F1, β', hrun', g3, (k1.trans k2).trans k3, .inl ⟨v', rfl, r3⟩⟩
theorem e_range {t : TypeId} {x : Operand} {h : Nat} {e : TypeId} {k : IntKind} {v0 : Ty} {xs : List (Unit × Int × v0.den)} (ho : o.op = .range t x) (hT : C.ty t = some (.sl (.mpe k v0))) (h1 : oprC env x = some (.ref h)) (hs : slotAt H h = .row true e (.mpe k v0) xs)
    (hv : v = .one (.ref H.length)) (hH' : H' = (H.set h (.row false e (.mpe k v0) xs)) ++ [Slot.iter k v0 xs []]) : EPost (L := L) P w0 w F0 F β H o a v H' := by
  subst hv hH'
  obtain ⟨d, it, z, tk⟩ := cx.ty _ _ hT
  obtain ⟨kt, vt, i', z', hd, mk⟩ := tk.mp _ _ rfl
  have rx := (hE x (by rw [ho]; simp [Op.operands])).cell h1
  have hH := slotAt_row hs (by simp)
  simp only [RepV, hH] at rx
  obtain ⟨⟨cells, ho', hrow⟩, hB⟩ := gd.slot rx.1 hH
  obtain ⟨g, arr, hu, harr, hm⟩ := own_map ho' hrow
  obtain ⟨F1, g1, k1, _, hF1⟩ := good_freeze gd hH
  have hFg : F1 g := hF1 _ g rfl rx.1 (by rw [hu]; rfl)
  have hrun : (execOp a.eval o).run P w = .ok (.value (.pointer (some ⟨w.heap.size, 0, none⟩))) (w.alloc (.mapIter (some g) arr.size #[] arr.size)) := by
    simp [execOp, ho, hu, Instr.range, run_underlying (show P.underlying t = some (.map kt vt) by rw [← hd]; exact tk.und), run_getObj harr, newObj, Sem.run]
  have hll : (H.set h (.row false e (.mpe k v0) xs)).length = H.length := by simp
  rw [← hll]
  generalize H.set h (.row false e (.mpe k v0) xs) = H1 at g1 k1 ⊢
  obtain ⟨g2, k2⟩ := good_more g1 [Slot.iter k v0 xs []]
  have hlast : (H1 ++ [Slot.iter k v0 xs []])[H1.length]? = some (.iter k v0 xs []) := by rw [List.getElem?_append_right (by omega)]; simp
  have hnF : ¬ F1 w.heap.size := fun h => Nat.lt_irrefl _ (g1.fsz _ h)
  have hm1 : MapR F1 w k v0 arr xs := hm.mono k1.f k1.w
  have hgl : g < w.heap.size := (Array.getElem?_eq_some_iff.1 harr).1
  have q : QPost P (Bs L w0) F1 w β (H1 ++ [Slot.iter k v0 xs []]) H1.length o a (.one (.ref H1.length)) [Slot.iter k v0 xs []] := by
    refine ⟨_, _, [.pointer (some ⟨w.heap.size, 0, none⟩)], hrun, rfl, ⟨below_alloc' _, fun h => by simp at h⟩, fun q u g hu hg => ?_, fun β' hb hβ => ?_⟩
    · cases q with
      | zero => simp at hu; subst hu; simp [blk] at hg; subst hg; exact ⟨rfl, Nat.le_refl _, by simp⟩
      | succ q => simp at hu
    · have h0' := hβ 0 _ rfl
      rw [Nat.add_zero] at h0'
      refine ⟨fun q s u hs hu => ?_, ?_⟩
      · cases q with
        | zero =>
          simp at hs hu
          subst hs hu
          refine ⟨w.heap.size, g, arr, rfl, .inl g1.below.size, hnF, alloc_at _, hFg, ((below_alloc' _).block g hgl).trans harr, hm1.mono (fun _ h => h) (fun g hg => (below_alloc' _).block g (g1.fsz g hg)), fun i h => by simp at h⟩
        | succ q => simp at hs
      · simp only [RepA, RepV, hlast]
        exact ⟨h0', rfl⟩
  have pre : Pre L w0 w F0 F1 β H1 (H1 ++ [Slot.iter k v0 xs []]) H1.length [Slot.iter k v0 xs []] := ⟨g2, fun h s hs _ => by rw [List.getElem?_append_left (List.getElem?_eq_some_iff.1 hs).1]; exact hs, fun j s hs => by rw [List.getElem?_append_right (by omega)]; simpa using hs⟩
  obtain ⟨v', w', β', hrun', g3, k3, r3, _, _⟩ := good_quiet pre (fun j _ => free_end g1 j) q
  exact ⟨_, w', F1, β', hrun', g3, (k1.trans k2).trans k3, .inl ⟨v', rfl, r3⟩⟩
theorem opE_ok (h : opE C env H o = some (true, v, H')) : EPost (L := L) P w0 w F0 F β H o a v H' := by
  unfold opE at h
  split at h
  · rename_i t x y ho
    simp only [Option.bind_eq_some_iff] at h
    obtain ⟨T, hT, c, h1, q, h2, us, h3, h4⟩ := h
    split at h4
    case isFalse => simp at h4
    rename_i hl
    simp only [Option.map_eq_some_iff] at h4
    obtain ⟨H1, h5, h6⟩ := h4
    simp at h6
    obtain ⟨rfl, rfl⟩ := h6
    exact e_store gd hE cx ho hT h1 h2 h3 hl h5 rfl
  · rename_i t len parts ho
    split at h
    case h_2 => simp at h
    rename_i e hT
    simp only [Option.bind_eq_some_iff] at h
    obtain ⟨p, h1, h2⟩ := h
    split at h2
    case isFalse => simp at h2
    rename_i hl
    simp at h2
    exact e_buildSlice gd hE cx ho hT hl.2 h1 hl.1 h2.1.symm h2.2.symm
  · rename_i t x ho
    simp only [Option.bind_eq_some_iff] at h
    obtain ⟨T, hT, c, h1, hh, hc, h2⟩ := h
    have hc := asRef_ok hc
    subst hc
    split at h2
    case h_2 => simp at h2
    rename_i e k v0 xs hs
    split at h2
    case isFalse => simp at h2
    rename_i hTe
    subst hTe
    simp at h2
    exact e_range gd hE cx ho hT h1 hs h2.1.symm h2.2.symm
  · rename_i t m key x ho
    simp only [Option.map_eq_some_iff] at h
    obtain ⟨H1, h1, h2⟩ := h
    simp at h2
    obtain ⟨rfl, rfl⟩ := h2
    exact e_map gd hE cx (.inl ho) h1 rfl
  · rename_i t m key x ho
    simp only [Option.map_eq_some_iff] at h
    obtain ⟨H1, h1, h2⟩ := h
    simp at h2
    obtain ⟨rfl, rfl⟩ := h2
    exact e_map gd hE cx (.inr ho) h1 rfl
  · rename_i args ats ho
    split at h
    case h_2 => simp at h
    rename_i s x t1 t2 ha hat
    split at h
    case isFalse => simp at h
    rename_i ht
    subst ht
    simp only [Option.bind_eq_some_iff] at h
    obtain ⟨T, hT, c, h1, b, h2, h3⟩ := h
    split at h3
    case h_2 => simp at h3
    rename_i hh
    split at h3
    case h_2 => simp at h3
    rename_i i t xs hs
    split at h3
    case isFalse => simp at h3
    rename_i hc
    obtain ⟨rfl, rfl, hmp⟩ := hc
    simp only [Option.bind_eq_some_iff, Option.map_eq_some_iff] at h3
    obtain ⟨r, h4, ys, h5, h6⟩ := h3
    simp at h6
    obtain ⟨e1, rfl, rfl⟩ := h6
    exact e_append gd hE cx ho ha hat hT hmp h1 h2 hs h4 h5 (by simpa using e1) rfl rfl
  · simp at h
end ops
end
end Go.Proofs.Ytanpdkllnmeenaa.Am
namespace Go.Proofs.Ytanpdkllnmeenaa.Am
open Go Go.RowKit
set_option linter.unusedVariables false
set_option linter.unusedSectionVars false
set_option linter.unusedSimpArgs false
section
variable {P : Program} {C : Ctx} {F F' F'' : Nat → Prop} {w w' : World} {β β' β0 : Bd} {H H' G H0 : Heap}
variable {L : Nat → Prop} {w0 : World} {F0 : Nat → Prop} {n : Nat} {sl : List Slot} {env : List AV} {a : Act} {o : Oper} {v : AV} {base : Nat → Prop} {D : Nat → Prop}
/-- What may be read while it is lent. -/
def FB (F : Nat → Prop) (β : Bd) (H : Heap) (D : Nat → Prop) : Nat → Prop := fun g => F g ∨ ∃ h u s, D h ∧ H[h]? = some s ∧ s.isLive = true ∧ β h = some u ∧ blk u = some g
theorem FB.of : ∀ g, F g → FB F β H D g := fun g h => .inl h
theorem RepC.fb {t : Ty} {x : t.den} {cs : List Value} (h : RepC F w t x cs) : RepC (FB F β H D) w t x cs := h.mono (fun g h => .inl h) fun _ _ => rfl
theorem lend_row (gd : Good L w0 w F0 F β H) {h : Nat} {l : Bool} {e : TypeId} {t : Ty} {xs : List t.den} {u : Value} (hH : H[h]? = some (.row l e t xs)) (hb : β h = some u) (hD : D h) : RepC (FB F β H D) w (.sl t) xs [u] := by
  have ok := gd.slot hb hH
  cases l with
  | false => exact RepC.fb (t := .sl t) ok
  | true =>
    have hfb : ∀ g, blk u = some g → FB F β H D g := fun g hg => .inr ⟨h, u, _, hD, hH, rfl, hb, hg⟩
    obtain ⟨⟨cells, ho, hr⟩, _⟩ := ok
    exact owns_rep ho (hr.mono fun _ _ => RepC.fb) hfb
theorem pure1_ok (gd : Good L w0 w F0 F β H) {c c' : CV} {u : Value} (r : RepV F w β H c u) (h : pure1 H c = some c') (hD : ∀ k ∈ hsC c, D k) : RepV (FB F β H D) w β0 H0 c' u := by
  cases c with
  | undef => simp [pure1] at h
  | nils => simp [pure1] at h; subst h; exact r
  | int k n => simp [pure1] at h; subst h; exact r
  | bool b => simp [pure1] at h; subst h; exact r
  | str s => simp [pure1] at h; subst h; exact r
  | vsl t xs => simp [pure1] at h; subst h; exact RepC.fb (t := .sl t) r
  | own => simp [pure1] at h
  | ptr => simp [pure1] at h
  | fn => simp [pure1] at h
  | fptr t x off =>
    simp [pure1] at h; subst h
    obtain ⟨g, o, cells, h1, h2, h3, h4⟩ := r
    exact ⟨g, o, cells, h1, .inl h2, h3.fb, h4⟩
  | ref k =>
    simp only [pure1] at h
    split at h
    · rename_i l e t xs hs
      injection h with h
      subst h
      have hH := slotAt_row hs (by simp)
      simp only [RepV, hH] at r
      exact lend_row gd hH r.1 (hD k (by simp [hsC]))
    · simp at h
  | sub k p m =>
    simp only [pure1] at h
    split at h
    · rename_i l e t xs hs
      injection h with h
      subst h
      have hH := slotAt_row hs (by simp)
      simp only [RepV, hH] at r
      exact sub_rep r fun e => lend_row gd hH e (hD k (by simp [hsC]))
    · simp at h
theorem mapM_pure {f : CV → Option CV} {R S : CV → Value → Prop} (hf : ∀ c c' u, R c u → f c = some c' → S c' u) : ∀ {cs cs' : List CV} {vs : List Value}, All2 R cs vs → cs.mapM f = some cs' → All2 S cs' vs
  | [], cs', _, .nil, h => by simp at h; subst h; exact .nil
  | c :: l, cs', _, .cons r t, h => by
    simp only [List.mapM_cons, Option.bind_eq_bind, Option.bind_eq_some_iff] at h
    obtain ⟨q, h1, q2, h2, h3⟩ := h
    simp at h3
    subst h3
    exact .cons (hf _ _ _ r h1) (mapM_pure hf t h2)
theorem mapM_pure' {α : Type} {f : α → Option α} {R S : α → Value → Prop} : ∀ {cs cs' : List α} {vs : List Value}, (∀ c ∈ cs, ∀ c' u, R c u → f c = some c' → S c' u) → All2 R cs vs → cs.mapM f = some cs' → All2 S cs' vs
  | [], cs', _, _, .nil, h => by simp at h; subst h; exact .nil
  | c :: l, cs', _, hf, .cons r t, h => by
    simp only [List.mapM_cons, Option.bind_eq_bind, Option.bind_eq_some_iff] at h
    obtain ⟨q, h1, q2, h2, h3⟩ := h
    simp at h3
    subst h3
    exact .cons (hf _ (by simp) _ _ r h1) (mapM_pure' (fun c hc => hf c (by simp [hc])) t h2)
/-- Lent, too: what stands in a lent variable. -/
def DeepIn (H : Heap) (D : Nat → Prop) : Prop := ∀ (h : Nat) (t : Ty) (cs : List CV), D h → H[h]? = some (.box t cs) → ∀ c ∈ cs, ∀ k ∈ hsC c, D k
theorem ptr_ok (gd : Good L w0 w F0 F β H) (hdeep : DeepIn H D) {h i off : Nat} {t : Ty} {cs cs' : List CV} {x : t.den} {u : Value} (r : RepPtr β H h i off u) (hD : D h) (hs : slotAt H h = .box t cs) (h1 : cs.mapM (pure1 H) = some cs') (h2 : unflat1 t cs' = some x) : RepF (FB F β H D) w t x off u := by
  have hH := slotAt_row hs (by simp)
  simp only [RepPtr, hH] at r
  obtain ⟨_, g, hb, rfl⟩ := r
  obtain ⟨g', arr, e, hu, hbase, harr, hall, hnF⟩ := gd.slot hb hH
  simp at hu
  subst hu
  have hall' := mapM_pure' (f := pure1 H) (R := RepV F w β H) (S := RepV (FB F β H D) w β H) (fun c hc c' u r hp => pure1_ok gd r hp (hdeep h t cs hD hH c hc)) hall h1
  refine ⟨g, 0, arr.toList, by rw [Nat.zero_add], .inr ⟨h, _, _, hD, hH, rfl, hb, rfl⟩, rep_unflat1 h2 hall', box_range harr⟩
theorem pureP_ok (gd : Good L w0 w F0 F β H) (hdeep : DeepIn H D) {c c' : PV} {u : Value} (r : RepP F w β H c u) (h : pureP H c = some c') (hD : ∀ k ∈ hsP c, D k) : RepP (FB F β H D) w β0 H0 c' u := by
  cases c with
  | val t x => simp [pureP] at h; subst h; exact RepC.fb r
  | agg t x => simp [pureP] at h; subst h; obtain ⟨vs, e, r⟩ := r; exact ⟨vs, e, RepC.fb r⟩
  | fptr t x off =>
    simp [pureP] at h; subst h
    obtain ⟨g, o, cells, h1, h2, h3, h4⟩ := r
    exact ⟨g, o, cells, h1, .inl h2, h3.fb, h4⟩
  | ptr k i off =>
    simp only [pureP] at h
    split at h
    · rename_i t cs hs
      simp only [Option.bind_eq_some_iff] at h
      obtain ⟨cs', h1, x, h2, h3⟩ := h
      split at h3
      · injection h3 with h3
        subst h3
        exact ptr_ok gd hdeep r (hD k (by simp [hsP])) hs h1 h2
      · simp at h3
    · simp at h
theorem pureC_ok (gd : Good L w0 w F0 F β H) (hdeep : DeepIn H D) {c c' : CV} {u : Value} (r : RepV F w β H c u) (h : pureC H c = some c') (hD : ∀ k ∈ hsC c, D k) : RepV (FB F β H D) w β0 H0 c' u := by
  cases c with
  | ptr k i off =>
    simp only [pureC] at h
    split at h
    · rename_i t cs hs
      simp only [Option.bind_eq_some_iff] at h
      obtain ⟨cs', h1, x, h2, h3⟩ := h
      split at h3
      · injection h3 with h3
        subst h3
        exact ptr_ok gd hdeep r (hD k (by simp [hsC])) hs h1 h2
      · simp at h3
    · simp at h
  | fn f a b =>
    simp only [pureC, Option.bind_eq_some_iff] at h
    obtain ⟨a', h1, b', h2, h3⟩ := h
    simp at h3
    subst h3
    obtain ⟨va, vb, hv, ra, rb⟩ := r
    refine ⟨va, vb, hv, ?_, ?_⟩
    · exact mapM_pure' (f := pureP H) (R := RepP F w β H) (fun c hc c' u r hp => pureP_ok gd hdeep r hp fun k hk => hD k (by simp only [hsC, List.mem_append, List.mem_flatMap]; exact .inl ⟨c, hc, hk⟩)) ra h1
    · exact mapM_pure' (f := pureP H) (R := RepP F w β H) (fun c hc c' u r hp => pureP_ok gd hdeep r hp fun k hk => hD k (by simp only [hsC, List.mem_append, List.mem_flatMap]; exact .inr ⟨c, hc, hk⟩)) rb h2
  | _ => exact pure1_ok gd r h hD
theorem pureA_ok (gd : Good L w0 w F0 F β H) (hdeep : DeepIn H D) {c c' : AV} {u : Value} (r : RepA F w β H c u) (h : pureA H c = some c') (hD : ∀ k ∈ hsA c, D k) : RepA (FB F β H D) w β0 H0 c' u := by
  cases c with
  | undef => simp [pureA] at h
  | tup => simp [pureA] at h
  | one c =>
    simp only [pureA, Option.map_eq_some_iff] at h
    obtain ⟨q, h1, rfl⟩ := h
    exact pureC_ok gd hdeep r h1 hD
  | agg cs =>
    simp only [pureA, Option.map_eq_some_iff] at h
    obtain ⟨q, h1, rfl⟩ := h
    obtain ⟨vs, hv, r⟩ := r
    exact ⟨vs, hv, mapM_pure' (f := pure1 H) (R := RepV F w β H) (fun c hc c' u r hp => pure1_ok gd r hp fun k hk => hD k (by simp only [hsA, List.mem_flatMap]; exact ⟨c, hc, hk⟩)) r h1⟩
/-! ### What comes back -/
def RepR (base : Nat → Prop) (F : Nat → Prop) (w : World) (r : AV) (v : Value) : Prop :=
  ∃ us : List Value, us.length = (adoptA r 0).2.length ∧
    (∀ (j j' : Nat) (u u' : Value) (g : Nat), us[j]? = some u → us[j']? = some u' → blk u = some g → blk u' = some g → j = j') ∧
    ∀ (n : Nat) (β : Bd) (H : Heap), (∀ (j : Nat) (s : Slot), (adoptA r 0).2[j]? = some s → H[n + j]? = some s) → (∀ (j : Nat) (u : Value), us[j]? = some u → β (n + j) = some u) →
      RepA F w β H (adoptA r n).1 v ∧ ∀ (j : Nat) (s : Slot) (u : Value), (adoptA r 0).2[j]? = some s → us[j]? = some u → SlotOk base F w β H s u
theorem adopt1_slots (c : CV) (n m : Nat) : (adopt1 c n).2 = (adopt1 c m).2 := by cases c <;> rfl
theorem adoptL_slots : ∀ (cs : List CV) (n m : Nat), (adoptL cs n).2 = (adoptL cs m).2
  | [], _, _ => rfl
  | c :: r, n, m => by simp only [adoptL]; rw [adopt1_slots c n m, adoptL_slots r]
theorem adoptT_slots : ∀ (cs : List (Bool × List CV)) (n m : Nat), (adoptT cs n).2 = (adoptT cs m).2
  | [], _, _ => rfl
  | c :: r, n, m => by simp only [adoptT]; rw [adoptL_slots c.2 n m, adoptT_slots r]
theorem adoptA_slots (r : AV) (n m : Nat) : (adoptA r n).2 = (adoptA r m).2 := by
  cases r with
  | undef => rfl
  | one c => exact adopt1_slots c n m
  | agg cs => exact adoptL_slots cs n m
  | tup vs => exact adoptT_slots vs n m
/-- Each of the slots that are taken over is a live row. -/
def Rows' (sl : List Slot) : Prop := ∀ s ∈ sl, ∃ e t xs, s = Slot.row true e t xs
theorem adopt1_rows (c : CV) (n : Nat) : Rows' (adopt1 c n).2 := by
  cases c <;> intro s hs <;> simp [adopt1] at hs
  exact ⟨_, _, _, hs⟩
theorem adoptL_rows : ∀ (cs : List CV) (n : Nat), Rows' (adoptL cs n).2
  | [], _ => fun s hs => by simp [adoptL] at hs
  | c :: r, n => fun s hs => by
    simp only [adoptL, List.mem_append] at hs
    rcases hs with hs | hs
    · exact adopt1_rows c n s hs
    · exact adoptL_rows r _ s hs
theorem adoptT_rows : ∀ (cs : List (Bool × List CV)) (n : Nat), Rows' (adoptT cs n).2
  | [], _ => fun s hs => by simp [adoptT] at hs
  | c :: r, n => fun s hs => by
    simp only [adoptT, List.mem_append] at hs
    rcases hs with hs | hs
    · exact adoptL_rows c.2 n s hs
    · exact adoptT_rows r _ s hs
theorem adoptA_rows (r : AV) (n : Nat) : Rows' (adoptA r n).2 := by
  cases r with
  | undef => intro s hs; simp [adoptA] at hs
  | one c => exact adopt1_rows c n
  | agg cs => exact adoptL_rows cs n
  | tup vs => exact adoptT_rows vs n
theorem RepC.plain : ∀ {t : Ty}, t.plain = true → ∀ {x : t.den} {cs : List Value}, RepC F w t x cs → RepC F' w' t x cs
  | .int _, _, _, _, h => h
  | .bool, _, _, _, h => h
  | .str, _, _, _, h => h
  | .unit, _, _, _, h => h
  | .pair a b, hp, _, _, ⟨c1, c2, h1, h2, h3⟩ => by
    simp [Ty.plain] at hp
    exact ⟨c1, c2, h1, RepC.plain hp.1 h2, RepC.plain hp.2 h3⟩
  | .sl _, hp, _, _, h => by simp [Ty.plain] at hp
  | .opq, hp, _, _, h => h.elim
/-- The slots that may be taken over where nothing is shared. -/
def Plain (sl : List Slot) : Prop := ∀ s ∈ sl, ∃ e t xs, s = Slot.row true e t xs ∧ t.plain = true
theorem adopt1_plain {c : CV} (h : alias1 c = false) (n : Nat) : Plain (adopt1 c n).2 := by
  cases c <;> intro s hs <;> simp [adopt1] at hs
  exact ⟨_, _, _, hs, by simpa [alias1] using h⟩
theorem adoptL_plain : ∀ {cs : List CV}, cs.any alias1 = false → ∀ n, Plain (adoptL cs n).2
  | [], _, _ => fun s hs => by simp [adoptL] at hs
  | c :: r, h, n => fun s hs => by
    simp only [List.any_cons, Bool.or_eq_false_iff] at h
    simp only [adoptL, List.mem_append] at hs
    rcases hs with hs | hs
    · exact adopt1_plain h.1 n s hs
    · exact adoptL_plain h.2 _ s hs
theorem adoptT_plain : ∀ {cs : List (Bool × List CV)}, (cs.any fun p => p.2.any alias1) = false → ∀ n, Plain (adoptT cs n).2
  | [], _, _ => fun s hs => by simp [adoptT] at hs
  | c :: r, h, n => fun s hs => by
    simp only [List.any_cons, Bool.or_eq_false_iff] at h
    simp only [adoptT, List.mem_append] at hs
    rcases hs with hs | hs
    · exact adoptL_plain h.1 n s hs
    · exact adoptT_plain h.2 _ s hs
theorem adoptA_plain {r : AV} (h : aliasA r = false) (n : Nat) : Plain (adoptA r n).2 := by
  cases r with
  | undef => intro s hs; simp [adoptA] at hs
  | one c => exact adopt1_plain h n
  | agg cs => exact adoptL_plain h n
  | tup vs => exact adoptT_plain h n
theorem RepV.plain {c : CV} (h : alias1 c = false) {n : Nat} {u : Value} (r : RepV F w β H (adopt1 c n).1 u) : RepV F' w' β H (adopt1 c n).1 u := by
  cases c <;> first
    | (simp [alias1] at h; done)
    | exact r
    | exact r.elim
theorem adoptL_rep : ∀ {cs : List CV}, cs.any alias1 = false → ∀ {n : Nat} {vs : List Value}, All2 (RepV F w β H) (adoptL cs n).1 vs → All2 (RepV F' w' β H) (adoptL cs n).1 vs
  | [], _, _, _, r => by cases r; exact .nil
  | c :: l, h, n, vs, r => by
    simp only [List.any_cons, Bool.or_eq_false_iff] at h
    simp only [adoptL] at r ⊢
    cases r with
    | cons r t => exact .cons (RepV.plain h.1 r) (adoptL_rep h.2 t)
theorem adoptA_rep {r : AV} (h : aliasA r = false) {n : Nat} {v : Value} (hr : RepA F w β H (adoptA r n).1 v) : RepA F' w' β H (adoptA r n).1 v := by
  cases r with
  | undef => trivial
  | one c => exact RepV.plain h hr
  | agg cs =>
    obtain ⟨vs, e, r⟩ := hr
    exact ⟨vs, e, adoptL_rep h r⟩
  | tup us =>
    obtain ⟨vs, e, r⟩ := hr
    refine ⟨vs, e, ?_⟩
    have h' : (us.any fun p => p.2.any alias1) = false := h
    clear h e
    revert r
    generalize vs.toList = l
    intro r
    induction us generalizing n l with
    | nil => simp only [adoptT] at r ⊢; cases r; exact .nil
    | cons c us ih =>
      simp only [List.any_cons, Bool.or_eq_false_iff] at h'
      simp only [adoptT] at r ⊢
      cases r with
      | cons r t =>
        refine .cons ?_ (ih h'.2 _ t)
        rcases c with ⟨b, cs⟩
        cases b with
        | true =>
          obtain ⟨ws, e, r⟩ := r
          exact ⟨ws, e, adoptL_rep h'.1 r⟩
        | false =>
          obtain ⟨q, e, r⟩ := r
          refine ⟨q, e, ?_⟩
          have := adoptL_rep (F' := F') (w' := w') h'.1 (n := n) (vs := [_]) (by rw [e]; exact .cons r .nil)
          rw [e] at this
          cases this with
          | cons r _ => exact r
end
end Go.Proofs.Ytanpdkllnmeenaa.Am
namespace Go.Proofs.Ytanpdkllnmeenaa.Am
open Go Go.RowKit
set_option linter.unusedVariables false
set_option linter.unusedSectionVars false
set_option linter.unusedSimpArgs false
section
variable {P : Program} {C : Ctx} {F F' F1 F'' : Nat → Prop} {w w' : World} {β β' β0 : Bd} {H H' H1 G H0 : Heap}
variable {L : Nat → Prop} {w0 : World} {F0 : Nat → Prop} {n : Nat} {sl : List Slot} {env : List AV} {a : Act} {o : Oper} {v : AV} {base : Nat → Prop} {D : Nat → Prop}
theorem freeze_ok : ∀ {hs : List Nat} {F : Nat → Prop} {H : Heap}, Good L w0 w F0 F β H → freeze H hs = some H' → ∃ F1, Good L w0 w F0 F1 β H' ∧ Keeps F F1 w w β β H H' ∧
    (∀ (h : Nat), h ∈ hs → ∀ (s : Slot) (u : Value) (g : Nat), H[h]? = some s → s.isLive = true → β h = some u → blk u = some g → F1 g) ∧ (∀ h ∈ hs, ∃ l e t xs, H[h]? = some (Slot.row l e t xs))
  | [], F, H, gd, h => by
    simp [freeze] at h
    subst h
    exact ⟨F, gd, ⟨fun _ h => h, fun _ _ => rfl, fun _ _ h => h, fun h s hs => ⟨s, hs, like_refl s⟩⟩, fun h hh => by simp at hh, fun h hh => by simp at hh⟩
  | h :: hs, F, H, gd, hf => by
    simp only [freeze] at hf
    split at hf
    case h_2 => simp at hf
    rename_i l e t xs hsl
    have hH := slotAt_row hsl (by simp)
    obtain ⟨F1, g1, k1, _, b1⟩ := good_freeze gd hH
    obtain ⟨F2, g2, k2, b2, r2⟩ := freeze_ok g1 hf
    refine ⟨F2, g2, k1.trans k2, fun q hq s u g hs' hl hu hg => ?_, fun q hq => ?_⟩
    · by_cases e : q = h
      · subst e
        rw [hH] at hs'
        injection hs' with hs'
        subst hs'
        exact k2.f _ (b1 u g (by simpa [Slot.isLive] using hl) hu hg)
      · rcases List.mem_cons.1 hq with hq | hq
        · exact absurd hq e
        · exact b2 q hq s u g (by rw [set_ne e]; exact hs') hl hu hg
    · by_cases e' : q = h
      · subst e'; exact ⟨_, _, _, _, hH⟩
      · rcases List.mem_cons.1 hq with hq | hq
        · exact absurd hq e'
        · obtain ⟨l, e, t, xs, h1⟩ := r2 q hq
          rw [set_ne e'] at h1
          exact ⟨l, e, t, xs, h1⟩
theorem slot_base {b : Nat → Prop} {s : Slot} {u : Value} (hb : ∀ g, b g → base g) (h : SlotOk b F w β H s u) : SlotOk base F w β H s u := by
  cases s with
  | dead => trivial
  | row l e t xs =>
    cases l with
    | true =>
      obtain ⟨⟨cells, h1, h3⟩, h4⟩ := h
      exact ⟨⟨cells, h1, h3⟩, fun g hg => ⟨hb g (h4 g hg).1, (h4 g hg).2⟩⟩
    | false => exact h
  | box t cs =>
    obtain ⟨g, arr, e, a, b', c⟩ := h
    exact ⟨g, arr, e, a, hb g b', c⟩
  | iter => exact IterR.base hb h
/-- What is made from here on. -/
abbrev Fr (w : World) : Nat → Prop := fun g => w.heap.size ≤ g
theorem fr_bs (gd : Good L w0 w F0 F β H) : ∀ g, Fr w g → Bs L w0 g := fun g hg => .inl (Nat.le_trans gd.below.size hg)
/-- Behind a call. -/
theorem good_call (gd : Good L w0 w F0 F β H) {r : AV} {v : Value} (hb : Below w.heap.size w w') (hF : ∀ g, F'' g → w.heap.size ≤ g ∧ g < w'.heap.size) (hr : RepR (Fr w) (fun g => F g ∨ F'' g) w' r v) :
    ∃ β', Good L w0 w' F0 (fun g => F g ∨ F'' g) β' (H ++ (adoptA r H.length).2) ∧ Keeps F (fun g => F g ∨ F'' g) w w' β β' H (H ++ (adoptA r H.length).2) ∧ RepA (fun g => F g ∨ F'' g) w' β' (H ++ (adoptA r H.length).2) (adoptA r H.length).1 v := by
  obtain ⟨us, hlen, hdis, hall⟩ := hr
  have esl := adoptA_slots r H.length 0
  rw [esl]
  have hat : ∀ (j : Nat) (s : Slot), (adoptA r 0).2[j]? = some s → (H ++ (adoptA r 0).2)[H.length + j]? = some s := fun j s hs => by
    rw [List.getElem?_append_right (by omega)]; simpa using hs
  obtain ⟨hv, hs⟩ := hall H.length (ext β H.length us) (H ++ (adoptA r 0).2) hat fun j u hu => ext_new hu
  have hold : ∀ {q : Nat} {s' : Slot}, H[q]? = some s' → (H ++ (adoptA r 0).2)[q]? = some s' := fun {q s'} hs' => by
    rw [List.getElem?_append_left (List.getElem?_eq_some_iff.1 hs').1]; exact hs'
  have kp : Keeps F (fun g => F g ∨ F'' g) w w' β (ext β H.length us) H (H ++ (adoptA r 0).2) :=
    ⟨fun _ h => .inl h, fun g hg => hb.block g (gd.fsz g hg), fun q u => ext_old fun j _ => free_end gd j, fun q s' hs' => ⟨s', hold hs', like_refl s'⟩⟩
  have hbase : ∀ {j : Nat} {u : Value} {g : Nat}, us[j]? = some u → blk u = some g → w.heap.size ≤ g := fun {j u g} hu hg => by
    have hj := (List.getElem?_eq_some_iff.1 hu).1
    rw [hlen] at hj
    have e := List.getElem?_eq_getElem hj
    have ok := hs j _ u e hu
    obtain ⟨e', t, xs, hq⟩ := adoptA_rows r 0 _ (List.getElem_mem hj)
    rw [hq] at ok
    exact (ok.lt rfl hg).1
  refine ⟨_, ⟨gd.below.trans hb, fun g hg => hg.elim (fun h => Nat.lt_of_lt_of_le (gd.fsz g h) hb.size) fun h => (hF g h).2, fun g hg hlt => hg.elim (fun h => gd.f0 g h hlt) fun h => ?_, fun g hg => .inl (gd.f1 g hg), fun q u hu => ?_, fun q q' s1 s2 u1 u2 g e1 e2 l1 l2 b1 b2 g1 g2 => ?_⟩, kp, hv⟩
  · exact absurd (.inl (Nat.le_trans gd.below.size (hF g h).1)) hlt
  · rcases ext_some hu with ⟨j, rfl, hj⟩ | hu'
    · have hj' := (List.getElem?_eq_some_iff.1 hj).1
      rw [hlen] at hj'
      have e := List.getElem?_eq_getElem hj'
      exact ⟨_, hat _ _ e, slot_base (fr_bs gd) (hs _ _ _ e hj)⟩
    · obtain ⟨s1, e1, e2⟩ := gd.dom q u hu'
      refine ⟨s1, hold e1, e2.keep kp fun hl' g hg' => ⟨hb.block g (e2.lt hl' hg').2.1, fun hn hor => ?_⟩⟩
      rcases hor with h | h
      · exact hn h
      · have := (hF g h).1
        have := (e2.lt hl' hg').2.1
        omega
  · have inv : ∀ {q : Nat} {s' : Slot} {u : Value}, β q = some u → (H ++ (adoptA r 0).2)[q]? = some s' → H[q]? = some s' := fun {q s' u} hb' hs' => by
      obtain ⟨s2, e2, _⟩ := gd.dom _ _ hb'
      have := hold e2
      rw [hs'] at this
      injection this with this
      subst this
      exact e2
    rcases ext_some b1 with ⟨j, rfl, hj⟩ | b1
    · rcases ext_some b2 with ⟨j', rfl, hj'⟩ | b2
      · rw [hdis j j' u1 u2 g hj hj' g1 g2]
      · have h1 := hbase hj g1
        have h2 := ((gd.slot b2 (inv b2 e2)).lt l2 g2).2.1
        omega
    · rcases ext_some b2 with ⟨j', rfl, hj'⟩ | b2
      · have h1 := hbase hj' g2
        have h2 := ((gd.slot b1 (inv b1 e1)).lt l1 g1).2.1
        omega
      · exact gd.sep q q' s1 s2 u1 u2 g (inv b1 e1) (inv b2 e2) l1 l2 b1 b2 g1 g2
structure CRes (w : World) (F : Nat → Prop) (r : AV) (v : Value) (w' : World) (F' : Nat → Prop) : Prop where
  below : Below w.heap.size w w'
  fsz : ∀ g, F' g → g < w'.heap.size
  f0 : ∀ g, F' g → g < w.heap.size → F g
  rep : RepR (Fr w) F' w' r v
def CallOK0 (P : Program) (g : FuncId) (vs : List AV) (r : AV) : Prop :=
  ∀ (w : World) (F : Nat → Prop) (args : Array Value), (∀ b, F b → b < w.heap.size) → All2 (RepA F w (fun _ => none) []) vs args.toList →
    ((callFunc g args).run P w = .ok (.enter g args) w ∧ Calls P g args w fun e w' => ∃ v F', e = .returned v ∧ CRes w F r v w' F') ∨
    ∃ v w' F', (callFunc g args).run P w = .ok (.value v) w' ∧ CRes w F r v w' F'
theorem RepR.to {r : AV} {v' : Value} (h : RepR base F w r v') (hF : ∀ g, F g → F' g) (hn : ∀ g, base g → ¬ F g → ¬ F' g) : RepR base F' w r v' := by
  obtain ⟨us, hlen, hdis, hall⟩ := h
  refine ⟨us, hlen, hdis, fun n β H hH hβ => ?_⟩
  obtain ⟨h1, h2⟩ := hall n β H hH hβ
  have kp : Keeps F F' w w β β H H := ⟨hF, fun _ _ => rfl, fun _ _ h => h, fun h s hs => ⟨s, hs, like_refl s⟩⟩
  refine ⟨h1.mono kp, fun j s u hs hu => ?_⟩
  have ok := h2 j s u hs hu
  exact ok.keep kp fun hl g hg => ⟨rfl, hn g (ok.lt hl hg).1⟩
theorem RepR.flat {r : AV} {v' : Value} (ha : aliasA r = false) (h : RepR base F w r v') (hn : ∀ g, base g → ¬ F g → ¬ F' g) : RepR base F' w r v' := by
  obtain ⟨us, hlen, hdis, hall⟩ := h
  refine ⟨us, hlen, hdis, fun n β H hH hβ => ?_⟩
  obtain ⟨h1, h2⟩ := hall n β H hH hβ
  refine ⟨adoptA_rep ha h1, fun j s u hs hu => ?_⟩
  have ok := h2 j s u hs hu
  obtain ⟨e, t, xs, rfl, hp⟩ := adoptA_plain ha 0 s (List.mem_of_getElem? hs)
  have hlt := fun g hg => ok.lt rfl (g := g) hg
  obtain ⟨⟨cells, a, b⟩, c⟩ := ok
  exact ⟨⟨cells, a, b.mono fun _ _ => RepC.plain hp⟩, fun g hg => ⟨(c g hg).1, hn g (hlt g hg).1 (c g hg).2⟩⟩
/-- What is lent with these handles. -/
inductive Dp (H : Heap) (hs : List Nat) : Nat → Prop where
  | base {h : Nat} : h ∈ hs → Dp H hs h
  | step {p : Nat} {t : Ty} {cs : List CV} {c : CV} {h : Nat} : Dp H hs p → H[p]? = some (.box t cs) → c ∈ cs → h ∈ hsC c → Dp H hs h
theorem dp_deep (H : Heap) (hs : List Nat) : DeepIn H (Dp H hs) := fun h t cs hd hb c hc k hk => .step hd hb hc hk
theorem dp_rows {hs : List Nat} (hr : ∀ h ∈ hs, ∃ l e t xs, H[h]? = some (Slot.row l e t xs)) {h : Nat} (hd : Dp H hs h) : h ∈ hs := by
  induction hd with
  | base h => exact h
  | step _ hb _ _ ih =>
    obtain ⟨l, e, t, xs, h1⟩ := hr _ ih
    rw [h1] at hb
    simp at hb
theorem call_ok (gd : Good L w0 w F0 F β H) {hs : List Nat} {r : AV} {v : Value} (hc : CRes w (FB F β H (Dp H hs)) r v w' F'') (hf : (match aliasA r with | false => some H | true => freeze H hs) = some H1) :
    ∃ F' β', Good L w0 w' F0 F' β' (H1 ++ (adoptA r H1.length).2) ∧ Keeps F F' w w' β β' H (H1 ++ (adoptA r H1.length).2) ∧ RepA F' w' β' (H1 ++ (adoptA r H1.length).2) (adoptA r H1.length).1 v := by
  cases ha : aliasA r with
  | false =>
    rw [ha] at hf
    simp at hf
    subst hf
    have hr := RepR.flat (F' := fun g => F g ∨ (w.heap.size ≤ g ∧ F'' g)) ha hc.rep (fun g hg hn => by
      rintro (h | h)
      · have := gd.fsz g h; omega
      · exact hn h.2)
    obtain ⟨β', g1, k1, r1⟩ := good_call gd hc.below (F'' := fun g => w.heap.size ≤ g ∧ F'' g) (fun g hg => ⟨hg.1, hc.fsz g hg.2⟩) hr
    exact ⟨_, β', g1, k1, r1⟩
  | true =>
    rw [ha] at hf
    simp only [] at hf
    obtain ⟨F1, g1, k1, b1, r1⟩ := freeze_ok gd hf
    have hr := RepR.to (F' := fun g => F1 g ∨ (w.heap.size ≤ g ∧ F'' g)) hc.rep (fun g hg => by
        by_cases hlt : g < w.heap.size
        · left
          rcases hc.f0 g hg hlt with h | ⟨h, u, s, hd, hs', hl, hb, hg'⟩
          · exact k1.f g h
          · exact b1 h (dp_rows r1 hd) s u g hs' hl hb hg'
        · exact .inr ⟨by omega, hg⟩) (fun g hg hn => by
      rintro (h | h)
      · have := g1.fsz g h; omega
      · exact hn h.2)
    obtain ⟨β', g2, k2, r2⟩ := good_call g1 hc.below (F'' := fun g => w.heap.size ≤ g ∧ F'' g) (fun g hg => ⟨hg.1, hc.fsz g hg.2⟩) hr
    exact ⟨_, β', g2, k1.trans k2, r2⟩
/-! ### What a function hands back -/
/-- The rows that are handed back: live ones, each by its handle. -/
def Gives (β : Bd) (H : Heap) (hs : List Nat) (us : List Value) : Prop := All2 (fun h u => β h = some u ∧ ∃ e t xs, H[h]? = some (Slot.row true e t xs)) hs us
/-- A result's cells, told of the handles that it takes over. -/
def Out (base : Nat → Prop) (F : Nat → Prop) (w : World) (us : List Value) (sl : List Slot) (rep : Nat → Bd → Heap → Prop) : Prop :=
  us.length = sl.length ∧ ∀ (n : Nat) (β : Bd) (H : Heap), (∀ (j : Nat) (s : Slot), sl[j]? = some s → H[n + j]? = some s) → (∀ (j : Nat) (u : Value), us[j]? = some u → β (n + j) = some u) →
    rep n β H ∧ ∀ (j : Nat) (s : Slot) (u : Value), sl[j]? = some s → us[j]? = some u → SlotOk base F w β H s u
theorem out_append {us1 us2 : List Value} {sl1 sl2 : List Slot} {rep1 rep2 : Nat → Bd → Heap → Prop} (h1 : Out base F w us1 sl1 rep1) (h2 : Out base F w us2 sl2 rep2) : Out base F w (us1 ++ us2) (sl1 ++ sl2) (fun n β H => rep1 n β H ∧ rep2 (n + sl1.length) β H) := by
  refine ⟨by rw [List.length_append, List.length_append, h1.1, h2.1], fun n β H hH hβ => ?_⟩
  obtain ⟨a1, a2⟩ := h1.2 n β H (fun j s hs => hH j s (by rw [List.getElem?_append_left (List.getElem?_eq_some_iff.1 hs).1]; exact hs)) (fun j u hu => hβ j u (by rw [List.getElem?_append_left (List.getElem?_eq_some_iff.1 hu).1]; exact hu))
  obtain ⟨b1, b2⟩ := h2.2 (n + sl1.length) β H (fun j s hs => by have := hH (sl1.length + j) s (by rw [List.getElem?_append_right (by omega)]; simpa using hs); rwa [← Nat.add_assoc] at this) (fun j u hu => by have := hβ (sl1.length + j) u (by rw [List.getElem?_append_right (by rw [h1.1]; omega), h1.1]; simpa using hu); rwa [← Nat.add_assoc] at this)
  refine ⟨⟨a1, b1⟩, fun j s u hs hu => ?_⟩
  by_cases hj : j < sl1.length
  · rw [List.getElem?_append_left hj] at hs
    rw [List.getElem?_append_left (by rw [h1.1]; exact hj)] at hu
    exact a2 j s u hs hu
  · rw [List.getElem?_append_right (by omega)] at hs
    rw [List.getElem?_append_right (by rw [h1.1]; omega), h1.1] at hu
    exact b2 _ s u hs hu
theorem exp1_ok (gd : Good L w0 w F0 F β H) {used used' : List Nat} {c c' : CV} {u : Value} (r : RepV F w β H c u) (h : exp1 H used c = some (c', used')) :
    ∃ hs us, (∀ h ∈ hs, h ∉ used ∧ h ∈ used') ∧ (∀ h ∈ used, h ∈ used') ∧ hs.Nodup ∧ Gives β H hs us ∧ Out (Bs L w0) F w us (adopt1 c' 0).2 (fun n β2 H2 => RepV F w β2 H2 (adopt1 c' n).1 u) := by
  have same : ∀ {c'' : CV}, c' = c'' → used' = used → (adopt1 c'' 0).2 = [] → (∀ n (β2 : Bd) (H2 : Heap), RepV F w β2 H2 (adopt1 c'' n).1 u) → ∃ hs us, (∀ h ∈ hs, h ∉ used ∧ h ∈ used') ∧ (∀ h ∈ used, h ∈ used') ∧ hs.Nodup ∧ Gives β H hs us ∧ Out (Bs L w0) F w us (adopt1 c' 0).2 (fun n β2 H2 => RepV F w β2 H2 (adopt1 c' n).1 u) := fun {c''} e1 e2 e3 e4 => by
    subst e1 e2
    refine ⟨[], [], fun h hh => by simp at hh, fun h hh => hh, List.nodup_nil, .nil, ?_⟩
    rw [e3]
    exact ⟨rfl, fun n β2 H2 _ _ => ⟨e4 n β2 H2, fun j s u hs => by simp at hs⟩⟩
  cases c with
  | ref k =>
    simp only [exp1] at h
    split at h
    · simp at h
    · rename_i hk
      split at h
      · rename_i e t xs hs
        injection h with h
        injection h with h1 h2
        subst h1 h2
        have hH := slotAt_row hs (by simp)
        simp only [RepV, hH] at r
        refine ⟨[k], [u], fun h hh => ?_, fun h hh => by simp [hh], by simp, .cons ⟨r.1, _, _, _, hH⟩ .nil, rfl, fun n β2 H2 hH2 hβ2 => ⟨?_, fun j s u' hs' hu' => ?_⟩⟩
        · simp at hh; subst hh; exact ⟨by simpa using hk, by simp⟩
        · have a1 := hH2 0 _ rfl
          have a2 := hβ2 0 _ rfl
          rw [Nat.add_zero] at a1 a2
          simp only [adopt1, RepV, a1]
          exact ⟨a2, r.2⟩
        · cases j with
          | zero => simp [adopt1] at hs' hu'; subst hs' hu'; exact gd.slot r.1 hH
          | succ j => simp [adopt1] at hs'
      · rename_i e t xs hs
        injection h with h
        injection h with h1 h2
        have hH := slotAt_row hs (by simp)
        simp only [RepV, hH] at r
        have ok := gd.slot r.1 hH
        exact same h1.symm h2.symm rfl fun n β2 H2 => ok
      · simp at h
  | sub k p m =>
    simp only [exp1] at h
    split at h
    · rename_i e t xs hs
      injection h with h
      injection h with h1 h2
      have hH := slotAt_row hs (by simp)
      simp only [RepV, hH] at r
      refine same h1.symm h2.symm rfl fun n β2 H2 => ?_
      exact sub_rep r fun e => gd.slot e hH
    · simp at h
  | int k n => simp [exp1] at h; exact same h.1.symm h.2.symm rfl fun _ _ _ => r
  | bool b => simp [exp1] at h; exact same h.1.symm h.2.symm rfl fun _ _ _ => r
  | str b => simp [exp1] at h; exact same h.1.symm h.2.symm rfl fun _ _ _ => r
  | vsl t xs => simp [exp1] at h; exact same h.1.symm h.2.symm rfl fun _ _ _ => r
  | fptr t x off => simp [exp1] at h; exact same h.1.symm h.2.symm rfl fun _ _ _ => r
  | undef => simp [exp1] at h
  | nils => simp [exp1] at h
  | own => simp [exp1] at h
  | ptr => simp [exp1] at h
  | fn => simp [exp1] at h
theorem gives_append {hs1 hs2 : List Nat} {us1 us2 : List Value} (h1 : Gives β H hs1 us1) (h2 : Gives β H hs2 us2) : Gives β H (hs1 ++ hs2) (us1 ++ us2) := All2.append h1 h2
theorem used_step {used u1 u2 : List Nat} {hs1 hs2 : List Nat} (a : ∀ h ∈ hs1, h ∉ used ∧ h ∈ u1) (b : ∀ h ∈ used, h ∈ u1) (c : ∀ h ∈ hs2, h ∉ u1 ∧ h ∈ u2) (d : ∀ h ∈ u1, h ∈ u2) (n1 : hs1.Nodup) (n2 : hs2.Nodup) :
    (∀ h ∈ hs1 ++ hs2, h ∉ used ∧ h ∈ u2) ∧ (∀ h ∈ used, h ∈ u2) ∧ (hs1 ++ hs2).Nodup := by
  refine ⟨fun h hh => ?_, fun h hh => d h (b h hh), List.nodup_append.2 ⟨n1, n2, fun x hx y hy e => ?_⟩⟩
  · rcases List.mem_append.1 hh with hh | hh
    · exact ⟨(a h hh).1, d h (a h hh).2⟩
    · exact ⟨fun hu => (c h hh).1 (b h hu), (c h hh).2⟩
  · subst e
    exact (c x hy).1 (a x hx).2
theorem expL_ok (gd : Good L w0 w F0 F β H) : ∀ {cs cs' : List CV} {used used' : List Nat} {vs : List Value}, All2 (RepV F w β H) cs vs → expL H used cs = some (cs', used') →
    ∃ hs us, (∀ h ∈ hs, h ∉ used ∧ h ∈ used') ∧ (∀ h ∈ used, h ∈ used') ∧ hs.Nodup ∧ Gives β H hs us ∧ Out (Bs L w0) F w us (adoptL cs' 0).2 (fun n β2 H2 => All2 (RepV F w β2 H2) (adoptL cs' n).1 vs)
  | [], cs', used, used', vs, r, h => by
    simp [expL] at h
    obtain ⟨rfl, rfl⟩ := h
    cases r
    exact ⟨[], [], fun h hh => by simp at hh, fun h hh => hh, List.nodup_nil, .nil, rfl, fun n β2 H2 _ _ => ⟨.nil, fun j s u hs => by simp [adoptL] at hs⟩⟩
  | c :: l, cs', used, used', vs, r, h => by
    simp only [expL, Option.bind_eq_some_iff, Option.map_eq_some_iff] at h
    obtain ⟨p, h1, q, h2, h3⟩ := h
    simp at h3
    obtain ⟨rfl, rfl⟩ := h3
    cases r with
    | cons r t =>
      obtain ⟨hs1, us1, a1, b1, n1, g1, o1⟩ := exp1_ok (c' := p.1) (used' := p.2) gd r h1
      obtain ⟨hs2, us2, a2, b2, n2, g2, o2⟩ := expL_ok gd (cs' := q.1) (used' := q.2) t h2
      obtain ⟨x1, x2, x3⟩ := used_step a1 b1 a2 b2 n1 n2
      refine ⟨hs1 ++ hs2, us1 ++ us2, x1, x2, x3, gives_append g1 g2, ?_⟩
      have o := out_append o1 o2
      have e : (adoptL (p.1 :: q.1) 0).2 = (adopt1 p.1 0).2 ++ (adoptL q.1 0).2 := by simp only [adoptL]; rw [adoptL_slots q.1 _ 0]
      rw [e]
      refine ⟨o.1, fun n β2 H2 hH hβ => ?_⟩
      obtain ⟨⟨y1, y2⟩, y3⟩ := o.2 n β2 H2 hH hβ
      refine ⟨?_, y3⟩
      simp only [adoptL]
      rw [adopt1_slots p.1 n 0]
      exact .cons y1 y2
/-- A result's part. -/
def RepU (F : Nat → Prop) (w : World) (β : Bd) (H : Heap) (u : Bool × List CV) (v : Value) : Prop :=
  match u with
  | (true, cs) => ∃ ws, v = .agg ws ∧ All2 (RepV F w β H) cs ws.toList
  | (false, cs) => ∃ c, cs = [c] ∧ RepV F w β H c v
theorem expA_ok (gd : Good L w0 w F0 F β H) {used used' : List Nat} {c : AV} {c' : Bool × List CV} {u : Value} (r : RepA F w β H c u) (h : expA H used c = some (c', used')) :
    ∃ hs us, (∀ h ∈ hs, h ∉ used ∧ h ∈ used') ∧ (∀ h ∈ used, h ∈ used') ∧ hs.Nodup ∧ Gives β H hs us ∧ Out (Bs L w0) F w us (adoptL c'.2 0).2 (fun n β2 H2 => RepU F w β2 H2 (c'.1, (adoptL c'.2 n).1) u) := by
  cases c with
  | undef => simp [expA] at h
  | tup => simp [expA] at h
  | one c =>
    simp only [expA, Option.map_eq_some_iff] at h
    obtain ⟨p, h1, h2⟩ := h
    simp at h2
    obtain ⟨rfl, rfl⟩ := h2
    obtain ⟨hs1, us1, a1, b1, n1, g1, o1⟩ := exp1_ok (c' := p.1) (used' := p.2) gd r h1
    refine ⟨hs1, us1, a1, b1, n1, g1, ?_⟩
    have e : (adoptL [p.1] 0).2 = (adopt1 p.1 0).2 := by simp [adoptL]
    rw [e]
    refine ⟨o1.1, fun n β2 H2 hH hβ => ?_⟩
    obtain ⟨y1, y3⟩ := o1.2 n β2 H2 hH hβ
    exact ⟨⟨_, by simp [adoptL], y1⟩, y3⟩
  | agg cs =>
    simp only [expA, Option.map_eq_some_iff] at h
    obtain ⟨p, h1, h2⟩ := h
    simp at h2
    obtain ⟨rfl, rfl⟩ := h2
    obtain ⟨vs, hv, r⟩ := r
    obtain ⟨hs1, us1, a1, b1, n1, g1, o1⟩ := expL_ok (cs' := p.1) (used' := p.2) gd r h1
    refine ⟨hs1, us1, a1, b1, n1, g1, o1.1, fun n β2 H2 hH hβ => ?_⟩
    obtain ⟨y1, y3⟩ := o1.2 n β2 H2 hH hβ
    exact ⟨⟨vs, hv, y1⟩, y3⟩
theorem expT_ok (gd : Good L w0 w F0 F β H) : ∀ {cs : List AV} {cs' : List (Bool × List CV)} {used : List Nat} {vs : List Value}, All2 (RepA F w β H) cs vs → expT H used cs = some cs' →
    ∃ hs us, (∀ h ∈ hs, h ∉ used) ∧ hs.Nodup ∧ Gives β H hs us ∧ Out (Bs L w0) F w us (adoptT cs' 0).2 (fun n β2 H2 => All2 (RepU F w β2 H2) (adoptT cs' n).1 vs)
  | [], cs', used, vs, r, h => by
    simp [expT] at h
    subst h
    cases r
    exact ⟨[], [], fun h hh => by simp at hh, List.nodup_nil, .nil, rfl, fun n β2 H2 _ _ => ⟨.nil, fun j s u hs => by simp [adoptT] at hs⟩⟩
  | c :: l, cs', used, vs, r, h => by
    simp only [expT, Option.bind_eq_some_iff, Option.map_eq_some_iff] at h
    obtain ⟨p, h1, q, h2, h3⟩ := h
    subst h3
    cases r with
    | cons r t =>
      obtain ⟨hs1, us1, a1, b1, n1, g1, o1⟩ := expA_ok (c' := p.1) (used' := p.2) gd r h1
      obtain ⟨hs2, us2, a2, n2, g2, o2⟩ := expT_ok gd (cs' := q) t h2
      refine ⟨hs1 ++ hs2, us1 ++ us2, fun h hh => ?_, List.nodup_append.2 ⟨n1, n2, fun x hx y hy e => ?_⟩, gives_append g1 g2, ?_⟩
      · rcases List.mem_append.1 hh with hh | hh
        · exact (a1 h hh).1
        · exact fun hu => a2 h hh (b1 h hu)
      · subst e; exact a2 x hy (a1 x hx).2
      · have o := out_append o1 o2
        have e : (adoptT (p.1 :: q) 0).2 = (adoptL p.1.2 0).2 ++ (adoptT q 0).2 := by simp only [adoptT]; rw [adoptT_slots q _ 0]
        rw [e]
        refine ⟨o.1, fun n β2 H2 hH hβ => ?_⟩
        obtain ⟨⟨y1, y2⟩, y3⟩ := o.2 n β2 H2 hH hβ
        refine ⟨?_, y3⟩
        simp only [adoptT]
        rw [adoptL_slots p.1.2 n 0]
        exact .cons y1 y2
theorem gives_dis (gd : Good L w0 w F0 F β H) {hs : List Nat} {us : List Value} (hn : hs.Nodup) (g : Gives β H hs us) : ∀ (j j' : Nat) (u u' : Value) (b : Nat), us[j]? = some u → us[j']? = some u' → blk u = some b → blk u' = some b → j = j' := by
  intro j j' u u' b h1 h2 b1 b2
  obtain ⟨h, e1, a1, e, t, xs, c1⟩ := All2.getR g h1
  obtain ⟨h', e2, a2, e', t', xs', c2⟩ := All2.getR g h2
  have := gd.sep h h' _ _ u u' b c1 c2 rfl rfl a1 a2 b1 b2
  subst this
  exact (List.getElem?_inj (List.getElem?_eq_some_iff.1 e1).1 hn).1 (e1.trans e2.symm)
end
end Go.Proofs.Ytanpdkllnmeenaa.Am
namespace Go.Proofs.Ytanpdkllnmeenaa.Am
open Go Go.RowKit
set_option linter.unusedVariables false
set_option linter.unusedSectionVars false
set_option linter.unusedSimpArgs false
section
variable {P : Program} {C : Ctx} {F F' F1 F'' : Nat → Prop} {w w' : World} {β β' β0 : Bd} {H H' H1 G H0 : Heap}
variable {L : Nat → Prop} {w0 : World} {F0 : Nat → Prop} {n : Nat} {sl : List Slot} {env : List AV} {a : Act} {o : Oper} {v : AV} {base : Nat → Prop} {D : Nat → Prop} {st st' : St}
/-! ### New numbers -/
theorem newH_at {ord : List Nat} {h i : Nat} (e : newH ord h = some i) : ord[i]? = some h := by
  unfold newH at e
  have := List.findIdx?_eq_some_iff_getElem.1 (by simpa [List.idxOf?] using e)
  obtain ⟨h1, h2, _⟩ := this
  rw [List.getElem?_eq_getElem h1]
  simpa using h2
def rn (β : Bd) (ord : List Nat) : Bd := fun i => (ord[i]?).bind β
theorem ren_slot {ord : List Nat} {h i : Nat} (e : ord[i]? = some h) : (ord.map fun h => renS ord (slotAt H h))[i]? = some (renS ord (slotAt H h)) := by
  rw [List.getElem?_map, e]; rfl
theorem renS_like {ord : List Nat} (s : Slot) : Like s (renS ord s) := by cases s <;> first | trivial | exact ⟨rfl, fun _ => rfl, id⟩
theorem slotAt_some {h : Nat} {s : Slot} (e : H[h]? = some s) : slotAt H h = s := by unfold slotAt; rw [List.getD_eq_getElem?_getD, e]; rfl
theorem renPtr {ord : List Nat} {h i k off : Nat} {u : Value} (e : newH ord h = some k) (r : RepPtr β H h i off u) : RepPtr (rn β ord) (ord.map fun h => renS ord (slotAt H h)) k i off u := by
  have e1 := newH_at e
  unfold RepPtr at r ⊢
  rw [ren_slot e1]
  have hb : rn β ord k = β h := by simp [rn, e1]
  split at r
  · exact r.elim
  · rename_i hs
    rw [slotAt_some hs]
    exact r
  · rename_i hs
    rw [slotAt_some hs]
    simp only [renS]
    rw [hb]; exact r
  · rename_i hs
    rw [slotAt_some hs]
    simp only [renS]
    rw [hb]; exact r
  · exact r.elim
theorem renP_ok {ord : List Nat} {q q' : PV} {u : Value} (h : renP ord q = some q') (r : RepP F w β H q u) : RepP F w (rn β ord) (ord.map fun h => renS ord (slotAt H h)) q' u := by
  cases q with
  | val t x => simp [renP] at h; subst h; exact r
  | agg t x => simp [renP] at h; subst h; exact r
  | fptr t x off => simp [renP] at h; subst h; exact r
  | ptr k i off =>
    simp only [renP, Option.map_eq_some_iff] at h
    obtain ⟨k', e, rfl⟩ := h
    exact renPtr e r
theorem ren1_ok {ord : List Nat} {c : CV} {u : Value} (r : RepV F w β H c u) : RepV F w (rn β ord) (ord.map fun h => renS ord (slotAt H h)) (ren1 ord c) u := by
  have one := r.one
  cases c with
  | ref h =>
    simp only [ren1]
    cases e : newH ord h with
    | none => exact one
    | some k =>
      have e1 := newH_at e
      have hb : rn β ord k = β h := by simp [rn, e1]
      simp only [RepV] at r ⊢
      rw [ren_slot e1]
      split at r
      · exact r.elim
      · rename_i hs; rw [slotAt_some hs]; exact r
      · rename_i hs; rw [slotAt_some hs]; simp only [renS]; rw [hb]; exact r
      · exact r.elim
      · rename_i hs; rw [slotAt_some hs]; simp only [renS]; rw [hb]; exact r
  | sub h p l =>
    simp only [ren1]
    cases e : newH ord h with
    | none => exact one
    | some k =>
      have e1 := newH_at e
      have hb : rn β ord k = β h := by simp [rn, e1]
      simp only [RepV] at r ⊢
      rw [ren_slot e1]
      split at r
      · exact r.elim
      · rename_i hs; rw [slotAt_some hs]; exact r
      · rename_i hs; rw [slotAt_some hs]; simp only [renS]; rw [hb]; exact r
      · exact r.elim
      · exact r.elim
  | ptr h i off =>
    simp only [ren1]
    cases e : newH ord h with
    | none => exact one
    | some k => exact renPtr e r
  | fn f x y =>
    simp only [ren1]
    split
    · rename_i x' y' hx hy
      obtain ⟨va, vb, hv, ra, rb⟩ := r
      refine ⟨va, vb, hv, ?_, ?_⟩
      · exact mapM_pure' (f := renP ord) (R := RepP F w β H) (fun c _ c' u r hp => renP_ok hp r) ra hx
      · exact mapM_pure' (f := renP ord) (R := RepP F w β H) (fun c _ c' u r hp => renP_ok hp r) rb hy
    · exact one
  | _ => exact r
theorem all2_map {α γ δ : Type} {R : α → δ → Prop} {S : γ → δ → Prop} {f : α → γ} (hf : ∀ x y, R x y → S (f x) y) : ∀ {l : List α} {m : List δ}, All2 R l m → All2 S (l.map f) m
  | _, _, .nil => .nil
  | _, _, .cons r t => .cons (hf _ _ r) (all2_map hf t)
theorem renA_ok {ord : List Nat} {c : AV} {u : Value} (r : RepA F w β H c u) : RepA F w (rn β ord) (ord.map fun h => renS ord (slotAt H h)) (renA ord c) u := by
  cases c with
  | undef => trivial
  | one c => exact ren1_ok r
  | agg cs =>
    obtain ⟨vs, hv, r⟩ := r
    exact ⟨vs, hv, all2_map (fun _ _ r => ren1_ok r) r⟩
  | tup vs => trivial
theorem keep_at {live ord : List Nat} : ∀ {env : List AV} {k : Nat} {us : Nat → Value}, (∀ i, RepA F w β H (env.getD i .undef) (us i)) → ∀ i, RepA F w (rn β ord) (ord.map fun h => renS ord (slotAt H h)) ((keepFrom live ord k env).getD i .undef) (us i)
  | [], k, us, h, i => by simp [keepFrom]; trivial
  | v :: r, k, us, h, 0 => by
    simp only [keepFrom, List.getD_cons_zero]
    split
    · exact renA_ok (h 0)
    · trivial
  | v :: r, k, us, h, i + 1 => by
    simp only [keepFrom, List.getD_cons_succ]
    exact keep_at (env := r) (k := k + 1) (us := fun i => us (i + 1)) (fun i => by have := h (i + 1); simpa using this) i
theorem keep_len {live ord : List Nat} : ∀ {env : List AV} {k : Nat}, (keepFrom live ord k env).length = env.length
  | [], _ => rfl
  | v :: r, k => by simp [keepFrom, keep_len]
theorem good_ren (gd : Good L w0 w F0 F β H) {ord : List Nat} (hn : ord.Nodup) : Good L w0 w F0 F (rn β ord) (ord.map fun h => renS ord (slotAt H h)) := by
  have inv : ∀ {i : Nat} {u : Value}, rn β ord i = some u → ∃ h s, ord[i]? = some h ∧ β h = some u ∧ H[h]? = some s ∧ SlotOk (Bs L w0) F w β H s u ∧ (ord.map fun h => renS ord (slotAt H h))[i]? = some (renS ord s) := fun {i u} hu => by
    simp only [rn, Option.bind_eq_some_iff] at hu
    obtain ⟨h, e, hb⟩ := hu
    obtain ⟨s, h1, h2⟩ := gd.dom h u hb
    exact ⟨h, s, e, hb, h1, h2, by rw [ren_slot e, slotAt_some h1]⟩
  refine ⟨gd.below, gd.fsz, gd.f0, gd.f1, fun i u hu => ?_, fun i i' s s' u u' g e1 e2 l1 l2 b1 b2 g1 g2 => ?_⟩
  · obtain ⟨h, s, e, hb, h1, h2, h3⟩ := inv hu
    refine ⟨_, h3, ?_⟩
    cases s with
    | dead => trivial
    | row l e t xs => cases l <;> exact h2
    | box t cs =>
      obtain ⟨g, arr, e, a, b, c, d, f⟩ := h2
      exact ⟨g, arr, e, a, b, c, all2_map (fun _ _ r => ren1_ok r) d, f⟩
    | iter => exact h2
  · obtain ⟨h, t, e, hb, h1, h2, h3⟩ := inv b1
    obtain ⟨h', t', e', hb', h1', h2', h3'⟩ := inv b2
    rw [e1] at h3
    rw [e2] at h3'
    injection h3 with h3
    injection h3' with h3'
    have l1' : t.isLive = true := by rw [h3] at l1; cases t <;> exact l1
    have l2' : t'.isLive = true := by rw [h3'] at l2; cases t' <;> exact l2
    have := gd.sep h h' t t' u u' g h1 h1' l1' l2' hb hb' g1 g2
    subst this
    exact (List.getElem?_inj (List.getElem?_eq_some_iff.1 e).1 hn).1 (e.trans e'.symm)
end
end Go.Proofs.Ytanpdkllnmeenaa.Am
namespace Go.Proofs.Ytanpdkllnmeenaa.Am
open Go Go.RowKit
set_option linter.unusedVariables false
set_option linter.unusedSectionVars false
set_option linter.unusedSimpArgs false
section
variable {P : Program} {C : Ctx} {F F' F1 F'' : Nat → Prop} {w w' : World} {β β' β0 : Bd} {H H' H1 G H0 : Heap}
variable {L : Nat → Prop} {w0 : World} {F0 : Nat → Prop} {n : Nat} {sl : List Slot} {env : List AV} {a : Act} {o : Oper} {v : AV} {base : Nat → Prop} {D : Nat → Prop} {st st' : St}
/-- What stands in a lent variable, or row. -/
def ContOk (B F : Nat → Prop) (w : World) (vals : List Value) (x ct : Value) : Prop :=
  (((∃ A n c, x = .slice A n c) ∨ ∃ g, x = .map (some g)) ∧ ct = x) ∨
  ∃ g arr e, x = .pointer (some ⟨g, 0, none⟩) ∧ ct = .agg arr ∧ w.heap[g]? = some (.cells arr e (0, 0)) ∧ B g ∧ ¬ F g ∧ ∀ (j : Nat) (u : Value), vals[j]? = some u → blk u ≠ some g
def RepRV (base : Nat → Prop) (F : Nat → Prop) (w : World) (us : List Value) (r : AV) (v : Value) : Prop :=
  us.length = (adoptA r 0).2.length ∧
    (∀ (j j' : Nat) (u u' : Value) (g : Nat), us[j]? = some u → us[j']? = some u' → blk u = some g → blk u' = some g → j = j') ∧
    ∀ (n : Nat) (β : Bd) (H : Heap), (∀ (j : Nat) (s : Slot), (adoptA r 0).2[j]? = some s → H[n + j]? = some s) → (∀ (j : Nat) (u : Value), us[j]? = some u → β (n + j) = some u) →
      RepA F w β H (adoptA r n).1 v ∧ ∀ (j : Nat) (s : Slot) (u : Value), (adoptA r 0).2[j]? = some s → us[j]? = some u → SlotOk base F w β H s u
theorem RepRV.to {us : List Value} {r : AV} {v' : Value} (h : RepRV base F w us r v') (hF : ∀ g, F g → F' g) (hn : ∀ g, base g → ¬ F g → ¬ F' g) : RepRV base F' w us r v' := by
  obtain ⟨hlen, hdis, hall⟩ := h
  refine ⟨hlen, hdis, fun n β H hH hβ => ?_⟩
  obtain ⟨h1, h2⟩ := hall n β H hH hβ
  have kp : Keeps F F' w w β β H H := ⟨hF, fun _ _ => rfl, fun _ _ h => h, fun h s hs => ⟨s, hs, like_refl s⟩⟩
  refine ⟨h1.mono kp, fun j s u hs hu => ?_⟩
  have ok := h2 j s u hs hu
  exact ok.keep kp fun hl g hg => ⟨rfl, hn g (ok.lt hl hg).1⟩
theorem RepRV.flat {us : List Value} {r : AV} {v' : Value} (ha : aliasA r = false) (h : RepRV base F w us r v') (hn : ∀ g, base g → ¬ F g → ¬ F' g) : RepRV base F' w us r v' := by
  obtain ⟨hlen, hdis, hall⟩ := h
  refine ⟨hlen, hdis, fun n β H hH hβ => ?_⟩
  obtain ⟨h1, h2⟩ := hall n β H hH hβ
  refine ⟨adoptA_rep ha h1, fun j s u hs hu => ?_⟩
  have ok := h2 j s u hs hu
  obtain ⟨e, t, xs, rfl, hp⟩ := adoptA_plain ha 0 s (List.mem_of_getElem? hs)
  have hlt := fun g hg => ok.lt rfl (g := g) hg
  obtain ⟨⟨cells, a, b⟩, c⟩ := ok
  exact ⟨⟨cells, a, b.mono fun _ _ => RepC.plain hp⟩, fun g hg => ⟨(c g hg).1, hn g (hlt g hg).1 (c g hg).2⟩⟩
def RepL (B F : Nat → Prop) (w : World) (X : List Value) (us : List (Bool × List CV)) (ws : List Value) : Prop :=
  ∃ vals cts : List Value, RepRV B F w vals (.tup us) (.tuple (cts ++ ws).toArray) ∧
    cts.length = X.length ∧ ∀ (j : Nat) (x ct : Value), X[j]? = some x → cts[j]? = some ct → ContOk B F w vals x ct
/-- Results, as one value. -/
def oneOf (ws : List Value) : Value := if h : ws.toArray.size = 1 then ws.toArray[0] else .tuple ws.toArray
structure CResL (L : Nat → Prop) (w : World) (F : Nat → Prop) (X : List Value) (r : AV) (v : Value) (w' : World) (F' : Nat → Prop) : Prop where
  below : BelowL L w w'
  fsz : ∀ g, F' g → g < w'.heap.size
  f0 : ∀ g, F' g → ¬ Bs L w g → F g
  f1 : ∀ g, F g → F' g
  rep : match X with
    | [] => RepR (Bs L w) F' w' r v
    | _ :: _ => ∃ us ws, r = .tup us ∧ v = oneOf ws ∧ RepL (Bs L w) F' w' X us ws
/-- What is known of a call. -/
def CallOK (P : Program) (g : FuncId) (p : Pack) (r : AV) : Prop :=
  ∀ (L : Nat → Prop) (w : World) (F : Nat → Prop) (β : Bd) (args : Array Value) (X : List Value), Good L w w F F β p.heap → All2 (RepA F w β p.heap) p.vs args.toList → All2 (RepV F w β p.heap) p.roots X →
    ((callFunc g args).run P w = .ok (.enter g args) w ∧ Calls P g args w fun e w' => ∃ v F', e = .returned v ∧ CResL L w F X r v w' F') ∨
    ∃ v w' F', (callFunc g args).run P w = .ok (.value v) w' ∧ CResL L w F X r v w' F'
theorem RepR.based {b B : Nat → Prop} {r : AV} {v : Value} (hB : ∀ g, b g → B g) (h : RepR b F w r v) : RepR B F w r v := by
  obtain ⟨us, hlen, hdis, hall⟩ := h
  refine ⟨us, hlen, hdis, fun n β H hH hβ => ?_⟩
  obtain ⟨h1, h2⟩ := hall n β H hH hβ
  exact ⟨h1, fun j s u hs hu => slot_base hB (h2 j s u hs hu)⟩
theorem good_start (hF : ∀ b, F b → b < w.heap.size) : Good L w w F F (fun _ => none) [] := ⟨BelowL.refl _ _, hF, fun g h _ => h, fun g h => h, fun h u hu => by simp at hu, fun h h' s s' u u' g e1 => by simp at e1⟩
theorem CallOK.to0 {g : FuncId} {vs : List AV} {r : AV} (h : CallOK P g ⟨vs, [], []⟩ r) : CallOK0 P g vs r := by
  intro w F args hF hargs
  have key : ∀ {v : Value} {w' : World} {F' : Nat → Prop}, CResL (fun _ => False) w F [] r v w' F' → CRes w F r v w' F' := fun {v w' F'} c =>
    ⟨⟨c.below.os, c.below.tape, c.below.output, c.below.size, fun k hk => c.below.block k hk id⟩, c.fsz, fun g hg hlt => c.f0 g hg (fun h => h.elim (fun h => absurd hlt (Nat.not_lt.2 h)) id), RepR.based (fun g h => h.elim id False.elim) c.rep⟩
  rcases h (fun _ => False) w F (fun _ => none) args [] (good_start hF) hargs .nil with ⟨h1, h2⟩ | ⟨v, w', F', h1, h2⟩
  · exact .inl ⟨h1, h2.mono fun e w' ⟨v, F', e1, c⟩ => ⟨v, F', e1, key c⟩⟩
  · exact .inr ⟨v, w', F', h1, key h2⟩
theorem CallOK.of0 {g : FuncId} {vs : List AV} {r : AV} (h : CallOK0 P g vs r) : CallOK P g ⟨vs, [], []⟩ r := by
  intro L w F β args X gd hargs hX
  have key : ∀ {v : Value} {w' : World} {F' : Nat → Prop}, CRes w F r v w' F' → ∃ F', CResL L w F X r v w' F' := fun {v w' F'} c => by
    cases hX
    refine ⟨fun g => F g ∨ F' g, ⟨c.below.os, c.below.tape, c.below.output, c.below.size, fun k hk _ => c.below.block k hk⟩, fun g hg => hg.elim (fun h => Nat.lt_of_lt_of_le (gd.fsz g h) c.below.size) (c.fsz g), fun g hg hn => hg.elim id fun h => ?_, fun g h => .inl h, ?_⟩
    · by_cases hlt : g < w.heap.size
      · exact c.f0 g h hlt
      · exact absurd (.inl (by omega)) hn
    · refine RepR.based (fun g h => .inl h) (RepR.to c.rep (fun g h => .inr h) fun g hg hn hor => hor.elim (fun h => ?_) hn)
      exact absurd (gd.fsz g h) (Nat.not_lt.2 hg)
  have kp : Keeps F F w w β (fun _ => none) [] [] := ⟨fun _ h => h, fun _ _ => rfl, fun h u hu => by obtain ⟨s, e, _⟩ := gd.dom h u hu; simp at e, fun h s hs => by simp at hs⟩
  rcases h w F args gd.fsz (hargs.mono fun _ _ => RepA.mono kp) with ⟨h1, h2⟩ | ⟨v, w', F', h1, h2⟩
  · refine .inl ⟨h1, h2.mono fun e w' ⟨v, F', e1, c⟩ => ?_⟩
    obtain ⟨F2, c2⟩ := key c
    exact ⟨v, F2, e1, c2⟩
  · obtain ⟨F2, c2⟩ := key h2
    exact .inr ⟨v, w', F2, h1, c2⟩
/-! ### What is lent -/
/-- The blocks that are lent. -/
def lendL (β : Bd) (H : Heap) (ord : List Nat) : Nat → Prop := fun g => ∃ h u s, h ∈ ord ∧ H[h]? = some s ∧ s.isLive = true ∧ β h = some u ∧ blk u = some g
theorem lend_lt (gd : Good L w0 w F0 F β H) {ord : List Nat} {g : Nat} (h : lendL β H ord g) : Bs L w0 g ∧ g < w.heap.size ∧ ¬ F g := by
  obtain ⟨h, u, s, _, hs, hl, hu, hg⟩ := h
  exact (gd.slot hu hs).lt hl hg
theorem fb_lt (gd : Good L w0 w F0 F β H) : ∀ g, FB F β H D g → g < w.heap.size := by
  rintro g (h | ⟨h, u, s, _, hs, hl, hu, hg⟩)
  · exact gd.fsz g h
  · exact ((gd.slot hu hs).lt hl hg).2.1
theorem fb_lend (gd : Good L w0 w F0 F β H) {ord : List Nat} (hd : ∀ h, D h → h ∉ ord) {g : Nat} (h : lendL β H ord g) : ¬ FB F β H D g := by
  rintro (hF | ⟨h2, u2, s2, hD, hs2, hl2, hu2, hg2⟩)
  · exact (lend_lt gd h).2.2 hF
  · obtain ⟨h, u, s, hm, hs, hl, hu, hg⟩ := h
    have := gd.sep h h2 s s2 u u2 g hs hs2 hl hl2 hu hu2 hg hg2
    subst this
    exact hd _ hD hm
theorem lend_good (gd : Good L w0 w F0 F β H) {ord : List Nat} (hn : ord.Nodup) (hd : ∀ h, D h → h ∉ ord) : Good (lendL β H ord) w w (FB F β H D) (FB F β H D) (rn β ord) (ord.map fun h => renS ord (slotAt H h)) := by
  have inv : ∀ {i : Nat} {u : Value}, rn β ord i = some u → ∃ h s, ord[i]? = some h ∧ β h = some u ∧ H[h]? = some s ∧ SlotOk (Bs L w0) F w β H s u ∧ (ord.map fun h => renS ord (slotAt H h))[i]? = some (renS ord s) := fun {i u} hu => by
    simp only [rn, Option.bind_eq_some_iff] at hu
    obtain ⟨h, e, hb⟩ := hu
    obtain ⟨s, h1, h2⟩ := gd.dom h u hb
    exact ⟨h, s, e, hb, h1, h2, by rw [ren_slot e, slotAt_some h1]⟩
  have kF : ∀ g, F g → FB F β H D g := fun g h => .inl h
  refine ⟨BelowL.refl _ _, fb_lt gd, fun g h _ => h, fun g h => h, fun i u hu => ?_, fun i i' s s' u u' g e1 e2 l1 l2 b1 b2 g1 g2 => ?_⟩
  · obtain ⟨h, s, e, hb, h1, h2, h3⟩ := inv hu
    have hL : s.isLive = true → ∀ g, blk u = some g → lendL β H ord g := fun hl g hg => ⟨h, u, s, List.mem_of_getElem? e, h1, hl, hb, hg⟩
    refine ⟨_, h3, ?_⟩
    cases s with
    | dead => trivial
    | row l e t xs =>
      cases l with
      | true => exact ⟨h2.1.imp fun c hc => ⟨hc.1, hc.2.mono fun _ _ => RepC.fb⟩, fun g hg => ⟨.inr (hL rfl g hg), fb_lend gd hd (hL rfl g hg)⟩⟩
      | false => exact RepC.fb (t := .sl t) h2
    | box t cs =>
      obtain ⟨g, arr, e', a, b, c, d, f⟩ := h2
      have hg := hL rfl g (by rw [a]; rfl)
      exact ⟨g, arr, e', a, .inr hg, c, (all2_map (S := RepV F w (rn β ord) (ord.map fun h => renS ord (slotAt H h))) (fun _ _ r => ren1_ok r) d).mono fun _ _ => RepV.mono ⟨kF, fun _ _ => rfl, fun _ _ h => h, fun h s hs => ⟨s, hs, like_refl s⟩⟩, fb_lend gd hd hg⟩
    | iter k v es seen =>
      obtain ⟨gi, g, arr, a1, a2, a3, a4, a5, a6, a7, a8⟩ := h2
      have hg := hL rfl gi (by rw [a1]; rfl)
      exact ⟨gi, g, arr, a1, .inr hg, fb_lend gd hd hg, a4, kF _ a5, a6, a7.mono kF fun _ _ => rfl, a8⟩
  · obtain ⟨h, t, e, hb, h1, h2, h3⟩ := inv b1
    obtain ⟨h', t', e', hb', h1', h2', h3'⟩ := inv b2
    rw [e1] at h3
    rw [e2] at h3'
    injection h3 with h3
    injection h3' with h3'
    have l1' : t.isLive = true := by rw [h3] at l1; cases t <;> exact l1
    have l2' : t'.isLive = true := by rw [h3'] at l2; cases t' <;> exact l2
    have := gd.sep h h' t t' u u' g h1 h1' l1' l2' hb hb' g1 g2
    subst this
    exact (List.getElem?_inj (List.getElem?_eq_some_iff.1 e).1 hn).1 (e.trans e'.symm)
theorem fb_keeps {H2 : Heap} {β2 : Bd} : Keeps F (FB F β H D) w w β2 β2 H2 H2 := ⟨fun _ h => .inl h, fun _ _ => rfl, fun _ _ h => h, fun h s hs => ⟨s, hs, like_refl s⟩⟩
theorem packP_ok (gd : Good L w0 w F0 F β H) (hdeep : DeepIn H D) {ord : List Nat} {c c' : PV} {u : Value} (r : RepP F w β H c u) (h : packP H ord c = some c') (hD : ∀ k ∈ hsP c, k ∉ ord → D k) : RepP (FB F β H D) w (rn β ord) (ord.map fun h => renS ord (slotAt H h)) c' u := by
  cases c with
  | ptr k i o =>
    simp only [packP] at h
    split at h
    · have := renP_ok (ord := ord) h r
      cases c' with
      | val => exact RepC.fb this
      | agg => obtain ⟨vs, e, r⟩ := this; exact ⟨vs, e, RepC.fb r⟩
      | fptr => exact RepF.mono (fun _ h => .inl h) (fun _ _ => rfl) this
      | ptr => exact this
    · rename_i hk
      exact pureP_ok gd hdeep r h fun q hq => hD q hq (by simp [hsP] at hq; subst hq; simpa using hk)
  | val t x => simp [packP] at h; subst h; exact RepC.fb r
  | agg t x => simp [packP] at h; subst h; obtain ⟨vs, e, r⟩ := r; exact ⟨vs, e, RepC.fb r⟩
  | fptr t x off => simp [packP] at h; subst h; exact RepF.mono (fun _ h => .inl h) (fun _ _ => rfl) r
theorem packC_ok (gd : Good L w0 w F0 F β H) (hdeep : DeepIn H D) {ord : List Nat} {c c' : CV} {u : Value} (r : RepV F w β H c u) (h : packC H ord c = some c') (hD : ∀ k ∈ hsC c, k ∉ ord → D k) : RepV (FB F β H D) w (rn β ord) (ord.map fun h => renS ord (slotAt H h)) c' u := by
  cases c with
  | ref k =>
    simp only [packC] at h
    split at h
    · injection h with h; subst h; exact (ren1_ok r).mono fb_keeps
    · rename_i hk
      exact pure1_ok gd r h fun q hq => hD q hq (by simp [hsC] at hq; subst hq; simpa using hk)
  | sub k o l =>
    simp only [packC] at h
    split at h
    · injection h with h; subst h; exact (ren1_ok r).mono fb_keeps
    · rename_i hk
      exact pure1_ok gd r h fun q hq => hD q hq (by simp [hsC] at hq; subst hq; simpa using hk)
  | ptr k i o =>
    simp only [packC] at h
    split at h
    · injection h with h; subst h; exact (ren1_ok r).mono fb_keeps
    · rename_i hk
      exact pureC_ok gd hdeep r h fun q hq => hD q hq (by simp [hsC] at hq; subst hq; simpa using hk)
  | fn f a b =>
    simp only [packC, Option.bind_eq_some_iff] at h
    obtain ⟨a', h1, b', h2, h3⟩ := h
    simp at h3
    subst h3
    obtain ⟨va, vb, hv, ra, rb⟩ := r
    refine ⟨va, vb, hv, ?_, ?_⟩
    · exact mapM_pure' (f := packP H ord) (R := RepP F w β H) (fun c hc c' u r hp => packP_ok gd hdeep r hp fun k hk => hD k (by simp only [hsC, List.mem_append, List.mem_flatMap]; exact .inl ⟨c, hc, hk⟩)) ra h1
    · exact mapM_pure' (f := packP H ord) (R := RepP F w β H) (fun c hc c' u r hp => packP_ok gd hdeep r hp fun k hk => hD k (by simp only [hsC, List.mem_append, List.mem_flatMap]; exact .inr ⟨c, hc, hk⟩)) rb h2
  | undef => simp [packC, pure1] at h
  | nils => simp [packC, pure1] at h; subst h; exact r
  | own => simp [packC, pure1] at h
  | int => exact pure1_ok gd r h fun q hq => by simp [hsC] at hq
  | bool => exact pure1_ok gd r h fun q hq => by simp [hsC] at hq
  | str => exact pure1_ok gd r h fun q hq => by simp [hsC] at hq
  | vsl => exact pure1_ok gd r h fun q hq => by simp [hsC] at hq
  | fptr => exact pure1_ok gd r h fun q hq => by simp [hsC] at hq
theorem packA_ok (gd : Good L w0 w F0 F β H) (hdeep : DeepIn H D) {ord : List Nat} {c c' : AV} {u : Value} (r : RepA F w β H c u) (h : packA H ord c = some c') (hD : ∀ k ∈ hsA c, k ∉ ord → D k) : RepA (FB F β H D) w (rn β ord) (ord.map fun h => renS ord (slotAt H h)) c' u := by
  cases c with
  | undef => simp [packA] at h
  | tup => simp [packA] at h
  | one c =>
    simp only [packA, Option.map_eq_some_iff] at h
    obtain ⟨q, h1, rfl⟩ := h
    exact packC_ok gd hdeep r h1 hD
  | agg cs =>
    simp only [packA, Option.map_eq_some_iff] at h
    obtain ⟨q, h1, rfl⟩ := h
    obtain ⟨vs, hv, r⟩ := r
    exact ⟨vs, hv, mapM_pure' (f := packC H ord) (R := RepV F w β H) (fun c hc c' u r hp => packC_ok gd hdeep r hp fun k hk => hD k (by simp only [hsA, List.mem_flatMap]; exact ⟨c, hc, hk⟩)) r h1⟩
/-! ### Behind it -/
theorem kill_at : ∀ {ord : List Nat} {H : Heap} {h : Nat} {s : Slot}, H[h]? = some s → (killAll H ord)[h]? = some (if h ∈ ord then .dead else s)
  | [], H, h, s, hs => by simpa [killAll] using hs
  | k :: r, H, h, s, hs => by
    simp only [killAll]
    by_cases e : h = k
    · subst e
      rw [kill_at (set_at hs)]
      simp
    · rw [kill_at (by rw [set_ne e]; exact hs)]
      simp [e]
theorem kill_len : ∀ {ord : List Nat} {H : Heap}, (killAll H ord).length = H.length
  | [], _ => rfl
  | k :: r, H => by simp [killAll, kill_len]
theorem kill_some {ord : List Nat} {H : Heap} {h : Nat} {s : Slot} (e : (killAll H ord)[h]? = some s) : ∃ s0, H[h]? = some s0 ∧ s = if h ∈ ord then .dead else s0 := by
  have hl := (List.getElem?_eq_some_iff.1 e).1
  rw [kill_len] at hl
  have e0 := List.getElem?_eq_getElem hl
  have := kill_at (ord := ord) e0
  rw [e] at this
  injection this with this
  exact ⟨_, e0, this⟩
theorem kill_like {ord : List Nat} : ∀ (h : Nat) (s : Slot), H[h]? = some s → ∃ s', (killAll H ord)[h]? = some s' ∧ Like s s' := fun h s hs => ⟨_, kill_at hs, by
  split
  · cases s <;> trivial
  · exact like_refl s⟩
theorem freeze_other : ∀ {hs : List Nat} {H H' : Heap}, freeze H hs = some H' → ∀ {h : Nat}, h ∉ hs → H'[h]? = H[h]?
  | [], H, H', h, q, _ => by simp [freeze] at h; subst h; rfl
  | k :: r, H, H', hf, q, hq => by
    simp only [freeze] at hf
    split at hf
    · rw [freeze_other hf (by simp at hq; exact hq.2), set_ne (by simp at hq; exact hq.1)]
    · simp at hf
theorem freeze_len : ∀ {hs : List Nat} {H H' : Heap}, freeze H hs = some H' → H'.length = H.length
  | [], H, H', h => by simp [freeze] at h; subst h; rfl
  | k :: r, H, H', hf => by
    simp only [freeze] at hf
    split at hf
    · rw [freeze_len hf]; simp
    · simp at hf
theorem freeze_box : ∀ {hs : List Nat} {H H' : Heap}, freeze H hs = some H' → ∀ {k : Nat} {t : Ty} {cs : List CV}, H[k]? = some (.box t cs) → H'[k]? = some (.box t cs)
  | [], H, H', h, k, t, cs, hk => by simp [freeze] at h; subst h; exact hk
  | q :: r, H, H', hf, k, t, cs, hk => by
    simp only [freeze] at hf
    split at hf
    · rename_i l e t2 xs hs
      refine freeze_box hf ?_
      rw [set_ne]
      · exact hk
      · intro e; subst e; rw [slotAt_some hk] at hs; simp at hs
    · simp at hf
/-- What is put in its place. -/
theorem put_spec : ∀ {hsL : List Nat} {parts : List (Bool × List CV)} {H2 H3 : Heap}, putParts H hsL parts H2 = some H3 → hsL.Nodup → H.length ≤ H2.length →
    ∃ mv : List Nat, (∀ k ∈ mv, H.length ≤ k) ∧ (∀ q, q ∉ hsL → q ∉ mv → H3[q]? = H2[q]?) ∧ (∀ q ∈ mv, H3[q]? = some .dead) ∧
      ∀ (j h : Nat), hsL[j]? = some h → ∃ p, parts[j]? = some p ∧ ((∃ t cs0, H[h]? = some (.box t cs0) ∧ H3[h]? = some (.box t p.2)) ∨
        (∃ e t xs k e' xs', H[h]? = some (.row true e t xs) ∧ p.2 = [.ref k] ∧ k ∈ mv ∧ H2[k]? = some (.row true e' t xs') ∧ H3[h]? = some (.row true e' t xs')))
  | [], parts, H2, H3, h, _, _ => by
    simp [putParts] at h
    subst h
    exact ⟨[], fun k hk => by simp at hk, fun _ _ _ => rfl, fun q hq => by simp at hq, fun j h hj => by simp at hj⟩
  | h :: r, [], H2, H3, hp, _, _ => by simp [putParts] at hp
  | h :: r, (b, cs) :: us, H2, H3, hp, hn, hl => by
    have hnr := (List.nodup_cons.1 hn)
    simp only [putParts] at hp
    split at hp
    · rename_i t cs0 hs
      have hH := slotAt_row hs (by simp)
      have hlt := (List.getElem?_eq_some_iff.1 hH).1
      obtain ⟨mv, a0, a1, a2, a3⟩ := put_spec hp hnr.2 (by simpa using hl)
      have hmv : h ∉ mv := fun hm => by have := a0 h hm; omega
      have hset : (H2.set h (.box t cs))[h]? = some (.box t cs) := List.getElem?_set_self (by omega)
      refine ⟨mv, a0, fun q hq hm => ?_, a2, fun j k hj => ?_⟩
      · simp at hq
        rw [a1 q hq.2 hm, set_ne hq.1]
      · cases j with
        | zero =>
          simp at hj
          subst hj
          exact ⟨(b, cs), rfl, .inl ⟨t, cs0, hH, by rw [a1 h hnr.1 hmv]; exact hset⟩⟩
        | succ j =>
          simp at hj
          obtain ⟨p, e1, e2⟩ := a3 j k hj
          refine ⟨p, by simpa using e1, e2.imp id fun ⟨e, t', xs, k', e', xs', b1, b2, b3, b4, b5⟩ => ⟨e, t', xs, k', e', xs', b1, b2, b3, ?_, b5⟩⟩
          rw [set_ne (by have := a0 k' b3; omega)] at b4
          exact b4
    · rename_i e t xs hs
      have hH := slotAt_row hs (by simp)
      have hlt := (List.getElem?_eq_some_iff.1 hH).1
      split at hp
      case h_2 => simp at hp
      rename_i k
      split at hp
      case h_2 => simp at hp
      rename_i e' t' xs' hk
      split at hp
      case isFalse => simp at hp
      rename_i hc
      obtain ⟨rfl, hkl⟩ := hc
      have hK := slotAt_row hk (by simp)
      have hklt := (List.getElem?_eq_some_iff.1 hK).1
      obtain ⟨mv, a0, a1, a2, a3⟩ := put_spec hp hnr.2 (by simpa using hl)
      have hmv : h ∉ mv := fun hm => by have := a0 h hm; omega
      have hset : ((H2.set k .dead).set h (.row true e' t' xs'))[h]? = some (.row true e' t' xs') := List.getElem?_set_self (by simp; omega)
      have hkd : ((H2.set k .dead).set h (.row true e' t' xs'))[k]? = some .dead := by rw [set_ne (by omega)]; exact List.getElem?_set_self hklt
      refine ⟨k :: mv, fun q hq => ?_, fun q hq hm => ?_, fun q hq => ?_, fun j q hj => ?_⟩
      · rcases List.mem_cons.1 hq with rfl | hq
        · exact hkl
        · exact a0 q hq
      · simp at hq hm
        rw [a1 q hq.2 hm.2, set_ne hq.1, set_ne hm.1]
      · by_cases hqm : q ∈ mv
        · exact a2 q hqm
        · rcases List.mem_cons.1 hq with rfl | hq
          · by_cases hqr : q ∈ r
            · obtain ⟨j, hj⟩ := List.getElem?_of_mem hqr
              obtain ⟨p, _, e2⟩ := a3 j q hj
              rcases e2 with ⟨t, cs0, b1, _⟩ | ⟨_, _, _, _, _, _, b1, _⟩
              · have := (List.getElem?_eq_some_iff.1 b1).1; omega
              · have := (List.getElem?_eq_some_iff.1 b1).1; omega
            · rw [a1 q hqr hqm]; exact hkd
          · exact absurd hq hqm
      · cases j with
        | zero =>
          simp at hj
          subst hj
          exact ⟨(b, [.ref k]), rfl, .inr ⟨e, t', xs, k, e', xs', hH, rfl, by simp, hK, by rw [a1 h hnr.1 hmv]; exact hset⟩⟩
        | succ j =>
          simp at hj
          obtain ⟨p, e1, e2⟩ := a3 j q hj
          refine ⟨p, by simpa using e1, e2.imp id fun ⟨e3, t3, xs3, k3, e3', xs3', b1, b2, b3, b4, b5⟩ => ⟨e3, t3, xs3, k3, e3', xs3', b1, b2, by simp [b3], ?_, b5⟩⟩
          have hk3 := a0 k3 b3
          rw [set_ne (by omega)] at b4
          by_cases ek : k3 = k
          · subst ek; rw [List.getElem?_set_self hklt] at b4; simp at b4
          · rw [set_ne ek] at b4; exact b4
    · simp at hp
theorem RepU.mono (k : Keeps F F' w w' β β' H H') {p : Bool × List CV} {v : Value} (r : RepU F w β H p v) : RepU F' w' β' H' p v := by
  rcases p with ⟨b, cs⟩
  cases b with
  | true => obtain ⟨ws, e, r⟩ := r; exact ⟨ws, e, r.mono fun _ _ => RepV.mono k⟩
  | false => obtain ⟨c, e, r⟩ := r; exact ⟨c, e, r.mono k⟩
/-- Behind a call that was lent something. -/
theorem after_ok (gd : Good L w0 w F0 F β H) {ord hsL hs : List Nat} {roots : List CV} {X : List Value} {r v' : AV} {v : Value} {H3 : Heap}
    (hord : ∀ h ∈ hsL, h ∈ ord) (hnd : hsL.Nodup) (hrows : ∀ h ∈ hs, (∃ l e t xs, H[h]? = some (.row l e t xs)) ∧ h ∉ ord)
    (hr : All2 (fun h c => (∃ k t cs, c = .ptr k 0 0 ∧ H[h]? = some (.box t cs)) ∨ ∃ k e t xs, c = .ref k ∧ H[h]? = some (.row true e t xs)) hsL roots) (hX : All2 (fun h x => β h = some x) hsL X) (hne : X ≠ [])
    (hc : CResL (lendL β H ord) w (FB F β H (Dp H hs)) X r v w' F') (h : afterL H hsL hs ord r = some (v', H3)) :
    ∃ F2 β2, Good L w0 w' F0 F2 β2 H3 ∧ Keeps F F2 w w' β β2 H H3 ∧ RepA F2 w' β2 H3 v' v := by
  obtain ⟨us, ws, rfl, hv, vals, cts, hrv, hcl, hcont⟩ : ∃ us ws, r = .tup us ∧ v = oneOf ws ∧ RepL (Bs (lendL β H ord) w) F' w' X us ws := by
    have := hc.rep
    cases X with
    | nil => exact absurd rfl hne
    | cons c r => exact this
  unfold afterL at h
  simp only [] at h
  split at h
  · simp at h
  rename_i Hf hfz
  -- what is frozen
  obtain ⟨F1, g1, k1, hfo, hal, hlen⟩ : ∃ F1, Good L w0 w F0 F1 β Hf ∧ Keeps F F1 w w β β H Hf ∧ (∀ h, h ∉ hs → Hf[h]? = H[h]?) ∧ (us.any (fun p => p.2.any alias1) = true → ∀ g, FB F β H (Dp H hs) g → F1 g) ∧ Hf.length = H.length := by
    cases ha : us.any (fun p => p.2.any alias1) with
    | false =>
      rw [ha] at hfz
      injection hfz with hfz
      subst hfz
      exact ⟨F, gd, ⟨fun _ h => h, fun _ _ => rfl, fun _ _ h => h, fun h s hs => ⟨s, hs, like_refl s⟩⟩, fun _ _ => rfl, fun h => by simp at h, rfl⟩
    | true =>
      rw [ha] at hfz
      obtain ⟨F1, g1, k1, b1, _⟩ := freeze_ok gd hfz
      refine ⟨F1, g1, k1, fun h hh => freeze_other hfz hh, fun _ g hg => ?_, freeze_len hfz⟩
      rcases hg with hg | ⟨h, u, s, hd, hs', hl, hb, hg'⟩
      · exact k1.f g hg
      · exact b1 h (dp_rows (fun h hh => (hrows h hh).1) hd) s u g hs' hl hb hg'
  have hno : ∀ {q : Nat}, q ∈ ord → Hf[q]? = H[q]? := fun {q} hq => hfo q fun hh => (hrows q hh).2 hq
  have hLf : ∀ {g : Nat}, lendL β H ord g → lendL β Hf ord g := fun {g} ⟨h, u, s, a, b, c⟩ => ⟨h, u, s, a, (hno a).trans b, c⟩
  have hL1 : ∀ {g : Nat}, lendL β H ord g → Bs L w0 g ∧ g < w.heap.size ∧ ¬ F1 g := fun hg => lend_lt g1 (hLf hg)
  have hsz := hc.below.size
  have hBs : ∀ g, Bs (lendL β H ord) w g → Bs L w0 g := fun g hg => hg.elim (fun h => .inl (Nat.le_trans gd.below.size h)) fun h => (hL1 h).1
  have hB1 : ∀ g, Bs (lendL β H ord) w g → ¬ F1 g := fun g hg => hg.elim (fun h hF => absurd (g1.fsz g hF) (Nat.not_lt.2 h)) fun h => (hL1 h).2.2
  -- one's own slots that are not lent
  have hold : ∀ {q : Nat} {s : Slot} {u : Value} {g : Nat}, Hf[q]? = some s → s.isLive = true → β q = some u → blk u = some g → q ∉ ord → ¬ Bs (lendL β H ord) w g := fun {q s u g} hs hl hu hg hq => by
    have hlt := ((g1.slot hu hs).lt hl hg).2.1
    rintro (h | h)
    · exact absurd hlt (Nat.not_lt.2 h)
    · obtain ⟨q2, u2, s2, hm, hs2, hl2, hu2, hg2⟩ := hLf h
      have := g1.sep q q2 s s2 u u2 g hs hs2 hl hl2 hu hu2 hg hg2
      subst this
      exact hq hm
  let Fa : Nat → Prop := fun g => F1 g ∨ (Bs (lendL β H ord) w g ∧ F' g)
  have hmem : ∀ g, g < w.heap.size → ¬ Bs (lendL β H ord) w g → w'.heap[g]? = w.heap[g]? := fun g hlt hn => hc.below.block g hlt fun h => hn (.inr h)
  have hF1w : ∀ g, F1 g → w'.heap[g]? = w.heap[g]? := fun g hg => hmem g (g1.fsz g hg) fun h => hB1 g h hg
  have hnFa : ∀ g, Bs (lendL β H ord) w g → ¬ F' g → ¬ Fa g := fun g hb hn hor => hor.elim (hB1 g hb) fun h => hn h.2
  have hrv2 : RepRV (Bs (lendL β H ord) w) Fa w' vals (.tup us) (.tuple (cts ++ ws).toArray) := by
    cases ha : us.any (fun p => p.2.any alias1) with
    | false => exact RepRV.flat (r := .tup us) ha hrv hnFa
    | true =>
      refine RepRV.to hrv (fun g hg => ?_) hnFa
      by_cases hb : Bs (lendL β H ord) w g
      · exact .inr ⟨hb, hg⟩
      · exact .inl (hal ha g (hc.f0 g hg hb))
  obtain ⟨hvl, hdis, hall⟩ := hrv2
  -- the heap with all slots
  obtain ⟨H4, hput, h⟩ := Option.bind_eq_some_iff.1 h
  have hkl : (killAll Hf ord).length = H.length := by rw [kill_len, hlen]
  have hsl0 : (adoptT us (killAll Hf ord).length).2 = (adoptA (.tup us) 0).2 := adoptT_slots us _ 0
  have hus0 : (adoptT us (killAll Hf ord).length).1 = (adoptT us H.length).1 := by rw [hkl]
  rw [hsl0] at hput
  rw [hus0] at hput h
  generalize hslE : (adoptA (.tup us) 0).2 = sl at hput hvl hall
  obtain ⟨mv, m0, m1, m2, m3⟩ := put_spec hput hnd (by rw [List.length_append, hkl]; omega)
  have hat : ∀ (j : Nat) (s : Slot), sl[j]? = some s → (Hf ++ sl)[H.length + j]? = some s := fun j s hs => by
    rw [List.getElem?_append_right (by omega)]; simpa [hlen] using hs
  have hat2 : ∀ (j : Nat) (s : Slot), sl[j]? = some s → (killAll Hf ord ++ sl)[H.length + j]? = some s := fun j s hs => by
    rw [List.getElem?_append_right (by omega)]; simpa [hkl] using hs
  have hfree : ∀ j, j < vals.length → β (H.length + j) = none := fun j _ => free_end gd j
  let β2 : Bd := ext β H.length vals
  have hb2 : ∀ q u, β q = some u → β2 q = some u := fun q u => ext_old hfree
  obtain ⟨hrep, hslots⟩ := hall H.length β2 (Hf ++ sl) (by simpa using hat) fun j u hu => ext_new hu
  have hordlt : ∀ {q : Nat} {s : Slot}, H[q]? = some s → q < H.length := fun hs => (List.getElem?_eq_some_iff.1 hs).1
  -- the end's slots
  have e_old : ∀ {q : Nat} {s : Slot}, q ∉ ord → Hf[q]? = some s → H4[q]? = some s := fun {q s} hq hs => by
    have hlt := (List.getElem?_eq_some_iff.1 hs).1
    rw [m1 q (fun h => hq (hord q h)) (fun h => by have := m0 q h; omega), List.getElem?_append_left (by rw [kill_len]; exact hlt), kill_at hs, if_neg hq]
  have e_dead : ∀ {q : Nat} {s : Slot}, q ∈ ord → q ∉ hsL → Hf[q]? = some s → H4[q]? = some .dead := fun {q s} hq hq2 hs => by
    have hlt := (List.getElem?_eq_some_iff.1 hs).1
    rw [m1 q hq2 (fun h => by have := m0 q h; omega), List.getElem?_append_left (by rw [kill_len]; exact hlt), kill_at hs, if_pos hq]
  have e_new : ∀ {j : Nat} {s : Slot}, sl[j]? = some s → H.length + j ∉ mv → H4[H.length + j]? = some s := fun {j s} hs hm => by
    rw [m1 _ (fun h => by
      obtain ⟨i, hi⟩ := List.getElem?_of_mem h
      obtain ⟨p, _, e⟩ := m3 i _ hi
      rcases e with ⟨_, _, e, _⟩ | ⟨_, _, _, _, _, _, e, _⟩ <;> (have := hordlt e; omega)) hm]
    exact hat2 j s hs
  -- each root
  have hrepA := hrep
  obtain ⟨Vs, hVs, hall2⟩ := hrep
  have hVs' : Vs.toList = cts ++ ws := by
    injection hVs with hVs
    rw [← hVs]
  have hall3 : All2 (RepU Fa w' β2 (Hf ++ sl)) (adoptT us H.length).1 (cts ++ ws) := by rw [← hVs']; exact hall2.mono fun u v h => h
  have hXlen : X.length = hsL.length := hX.length.symm
  have hctl : cts.length = hsL.length := by rw [hcl, hXlen]
  have root : ∀ {i q : Nat}, hsL[i]? = some q → ∃ x s s', X[i]? = some x ∧ β q = some x ∧ Hf[q]? = some s ∧ H4[q]? = some s' ∧ s.isLive = true ∧ s'.isLive = true ∧
      ((∃ t cs0 cs g arr e, s = .box t cs0 ∧ s' = .box t cs ∧ x = .pointer (some ⟨g, 0, none⟩) ∧ w'.heap[g]? = some (.cells arr e (0, 0)) ∧ Bs (lendL β H ord) w g ∧ ¬ F' g ∧ All2 (RepV Fa w' β2 (Hf ++ sl)) cs arr.toList ∧ ∀ (j : Nat) (u : Value), vals[j]? = some u → blk u ≠ some g) ∨
       (∃ e t xs j e' xs', s = .row true e t xs ∧ s' = .row true e' t xs' ∧ H.length + j ∈ mv ∧ sl[j]? = some s' ∧ vals[j]? = some x)) := fun {i q} hq => by
    obtain ⟨x, hx, hbx⟩ := hX.get hq
    obtain ⟨c, hcr, hkind⟩ := hr.get hq
    obtain ⟨p, hp, hspec⟩ := m3 i q hq
    have hqm : q ∈ ord := hord q (List.mem_of_getElem? hq)
    have hi : i < hsL.length := (List.getElem?_eq_some_iff.1 hq).1
    have hp' : (adoptT us H.length).1[i]? = some p := by
      rwa [List.getElem?_take, if_pos hi] at hp
    obtain ⟨ct, hct, hru⟩ := hall3.get hp'
    have hct' : cts[i]? = some ct := by rwa [List.getElem?_append_left (by omega)] at hct
    have hco := hcont i x ct hx hct'
    rcases hkind with ⟨k, t, cs, rfl, hHq⟩ | ⟨k, e, t, xs, rfl, hHq⟩
    · obtain ⟨g, arr, e, hxg, hcta, hgarr, hB, hnF, hvd⟩ : ∃ g arr e, x = .pointer (some ⟨g, 0, none⟩) ∧ ct = .agg arr ∧ w'.heap[g]? = some (.cells arr e (0, 0)) ∧ Bs (lendL β H ord) w g ∧ ¬ F' g ∧ ∀ (j : Nat) (u : Value), vals[j]? = some u → blk u ≠ some g := by
        rcases hco with ⟨⟨A, n, c, e1⟩ | ⟨g1, e1⟩, _⟩ | h
        · obtain ⟨g, arr, e, e2, _⟩ := gd.slot hbx hHq
          rw [e1] at e2; simp at e2
        · obtain ⟨g, arr, e, e2, _⟩ := gd.slot hbx hHq
          rw [e1] at e2; simp at e2
        · exact h
      rcases hspec with ⟨t', cs0, b1, b2⟩ | ⟨_, _, _, _, _, _, b1, _⟩
      · rw [hHq] at b1
        injection b1 with b1
        injection b1 with b1 b1'
        subst b1 b1'
        rcases p with ⟨b, cs'⟩
        subst hcta
        have hcs : All2 (RepV Fa w' β2 (Hf ++ sl)) cs' arr.toList := by
          cases b with
          | true => obtain ⟨ws', e1, r⟩ := hru; injection e1 with e1; subst e1; exact r
          | false =>
            obtain ⟨c, rfl, r⟩ := hru
            have := r.one
            simp [Value.oneCell'] at this
        exact ⟨x, _, _, hx, hbx, (hno hqm).trans hHq, b2, rfl, rfl, .inl ⟨t, cs, cs', g, arr, e, rfl, rfl, hxg, hgarr, hB, hnF, hcs, hvd⟩⟩
      · rw [hHq] at b1; simp at b1
    · rcases hspec with ⟨t', cs0, b1, b2⟩ | ⟨e2, t2, xs2, k2, e2', xs2', b1, b2, b3, b4, b5⟩
      · rw [hHq] at b1; simp at b1
      · rw [hHq] at b1
        injection b1 with b1
        injection b1 with _ a1 a2 a3
        subst a1 a2
        have hk2 := m0 k2 b3
        rw [List.getElem?_append_right (by omega), hkl] at b4
        have hk4 : (Hf ++ sl)[k2]? = some (.row true e2' t xs2') := by
          have := hat (k2 - H.length) _ b4
          rwa [show H.length + (k2 - H.length) = k2 by omega] at this
        have hcx : ct = x := by
          rcases hco with ⟨_, e1⟩ | ⟨g, arr, e, e1, _⟩
          · exact e1
          · obtain ⟨⟨_, ho, _⟩, _⟩ := gd.slot hbx hHq
            rcases ownsT_kind ho with ⟨_, A, c, h⟩ | ⟨g, _, h⟩
            · rw [h] at e1; simp at e1
            · rw [h] at e1; simp at e1
        subst hcx
        have hrk : RepV Fa w' β2 (Hf ++ sl) (.ref k2) ct := by
          rcases p with ⟨b, cs'⟩
          have b2 : cs' = [.ref k2] := b2
          subst b2
          cases b with
          | true => 
            obtain ⟨ws', e1, r⟩ := hru
            have := gd.slot hbx hHq
            obtain ⟨⟨cells, ho, _⟩, _⟩ := this
            rcases ownsT_kind ho with ⟨_, A, c, h⟩ | ⟨g, _, h⟩
            · rw [h] at e1; simp at e1
            · rw [h] at e1; simp at e1
          | false => obtain ⟨c, e1, r⟩ := hru; injection e1 with e1; subst e1; exact r
        simp only [RepV, hk4] at hrk
        have hvk : vals[k2 - H.length]? = some ct := by
          have hh := hrk.1
          rcases ext_some hh with ⟨j, hj, hju⟩ | hh
          · have : k2 - H.length = j := by omega
            rw [this]; exact hju
          · obtain ⟨s9, h9, _⟩ := gd.dom _ _ hh
            have := hordlt h9
            omega
        exact ⟨ct, _, _, hx, hbx, (hno hqm).trans hHq, b5, rfl, rfl, .inr ⟨e, t, xs, k2 - H.length, e2', xs2', rfl, rfl, by rw [show H.length + (k2 - H.length) = k2 by omega]; exact b3, b4, hvk⟩⟩
  -- rows keep their lengths
  have hslot : ∀ {j : Nat} {s : Slot} {u : Value}, sl[j]? = some s → vals[j]? = some u → SlotOk (Bs (lendL β H ord) w) Fa w' β2 (Hf ++ sl) s u := fun h1 h2 => hslots _ _ _ h1 h2
  have hlike : ∀ (q : Nat) (s : Slot), Hf[q]? = some s → ∃ s', H4[q]? = some s' ∧ Like s s' := fun q s hs => by
    by_cases hq : q ∈ ord
    · by_cases hq2 : q ∈ hsL
      · obtain ⟨i, hi⟩ := List.getElem?_of_mem hq2
        obtain ⟨x, s1, s', hx, hbx, e1, e2, l1, l2, hk⟩ := root hi
        rw [hs] at e1
        injection e1 with e1
        subst e1
        refine ⟨s', e2, ?_⟩
        rcases hk with ⟨t, cs0, cs, g, arr, e, rfl, rfl, _⟩ | ⟨e, t, xs, j, e', xs', rfl, rfl, _, hj, hvj⟩
        · trivial
        · refine ⟨rfl, fun hm => ?_, id⟩
          obtain ⟨⟨c1, a1, _⟩, _⟩ := g1.slot hbx hs
          obtain ⟨⟨c2, b1, _⟩, _⟩ := hslot hj hvj
          rcases ownsT_kind a1 with ⟨_, A, c, a2⟩ | ⟨g, hm', _⟩
          · rcases ownsT_kind b1 with ⟨_, B, d, b2⟩ | ⟨g, hm', _⟩
            · rw [a2] at b2; simp at b2; exact b2.2.1.symm
            · rw [hm] at hm'; simp at hm'
          · rw [hm] at hm'; simp at hm'
      · exact ⟨_, e_dead hq hq2 hs, by cases s <;> trivial⟩
    · exact ⟨s, e_old hq hs, like_refl s⟩
  have kpf : Keeps F1 Fa w w' β β2 Hf H4 := ⟨fun _ h => .inl h, hF1w, hb2, hlike⟩
  have kpn : Keeps Fa Fa w' w' β2 β2 (Hf ++ sl) H4 := ⟨fun _ h => h, fun _ _ => rfl, fun _ _ h => h, fun q s hs => by
    by_cases hq : q < Hf.length
    · rw [List.getElem?_append_left hq] at hs
      exact hlike q s hs
    · rw [List.getElem?_append_right (by omega)] at hs
      have hq' : H.length + (q - Hf.length) = q := by omega
      by_cases hm : q ∈ mv
      · exact ⟨_, m2 q hm, by cases s <;> trivial⟩
      · have := e_new hs (by rw [hq']; exact hm)
        rw [hq'] at this
        exact ⟨s, this, like_refl s⟩⟩
  -- whose a live slot at the end is
  have cls : ∀ {q : Nat} {s : Slot} {u : Value}, H4[q]? = some s → s.isLive = true → β2 q = some u →
      (Hf[q]? = some s ∧ q ∉ ord ∧ β q = some u) ∨ (q ∈ hsL ∧ β q = some u ∧ ∃ s0, Hf[q]? = some s0 ∧ s0.isLive = true) ∨ (∃ j, q = H.length + j ∧ q ∉ mv ∧ vals[j]? = some u ∧ sl[j]? = some s) := fun {q s u} hs hl hu => by
    rcases ext_some hu with ⟨j, rfl, hj⟩ | hu'
    · right; right
      have hjl : j < sl.length := by rw [← hvl]; exact (List.getElem?_eq_some_iff.1 hj).1
      have hsj := List.getElem?_eq_getElem hjl
      by_cases hm : H.length + j ∈ mv
      · rw [m2 _ hm] at hs; injection hs with hs; subst hs; simp [Slot.isLive] at hl
      · have := e_new hsj hm
        rw [hs] at this
        injection this with this
        subst this
        exact ⟨j, rfl, hm, hj, hsj⟩
    · obtain ⟨s0, h0, _⟩ := g1.dom q u hu'
      by_cases hq : q ∈ ord
      · by_cases hq2 : q ∈ hsL
        · obtain ⟨i, hi⟩ := List.getElem?_of_mem hq2
          obtain ⟨x, s1, s', hx, hbx, e1, e2, l1, l2, hk⟩ := root hi
          exact .inr (.inl ⟨hq2, hu', s1, e1, l1⟩)
        · rw [e_dead hq hq2 h0] at hs; injection hs with hs; subst hs; simp [Slot.isLive] at hl
      · left
        have := e_old hq h0
        rw [hs] at this
        injection this with this
        subst this
        exact ⟨h0, hq, hu'⟩
  have hvB : ∀ {j : Nat} {u : Value} {g : Nat}, vals[j]? = some u → blk u = some g → Bs (lendL β H ord) w g := fun {j u g} hu hg => by
    have hjl : j < sl.length := by rw [← hvl]; exact (List.getElem?_eq_some_iff.1 hu).1
    have hsj := List.getElem?_eq_getElem hjl
    obtain ⟨e, t, xs, hq⟩ := adoptA_rows (.tup us) 0 sl[j] (by rw [hslE]; exact List.getElem_mem hjl)
    have := hslot hsj hu
    rw [hq] at this
    exact (this.lt rfl hg).1
  -- a root's block is nobody else's
  have hRC : ∀ {q : Nat} {u : Value} {g j : Nat} {u' : Value}, q ∈ hsL → β q = some u → blk u = some g → vals[j]? = some u' → H.length + j ∉ mv → blk u' = some g → False := fun {q u g j u'} hq hu hg hj hm hg' => by
    obtain ⟨i, hi⟩ := List.getElem?_of_mem hq
    obtain ⟨x, s1, s', hx, hbx, e1, e2, l1, l2, hk⟩ := root hi
    rw [hu] at hbx; injection hbx with hbx; subst hbx
    rcases hk with ⟨t, cs0, cs, g', arr, e, rfl, rfl, hxg, _, _, _, _, hvd⟩ | ⟨e, t, xs, j', e', xs', rfl, rfl, hm', hj', hvj⟩
    · rw [hxg] at hg; simp [blk] at hg; subst hg
      exact hvd j u' hj hg'
    · have := hdis j' j u u' g hvj hj hg hg'
      subst this
      exact hm hm'
  have good : Good L w0 w' F0 Fa β2 H4 := by
    refine ⟨⟨hc.below.os.trans gd.below.os, hc.below.tape.trans gd.below.tape, hc.below.output.trans gd.below.output, Nat.le_trans gd.below.size hc.below.size, fun k hk hnL => ?_⟩, fun g hg => ?_, fun g hg hn => ?_, fun g hg => .inl (g1.f1 g hg), fun q u hu => ?_, fun q q' s1 s2 u1 u2 g e1 e2 l1 l2 b1 b2 g1' g2' => ?_⟩
    · have hkw : k < w.heap.size := Nat.lt_of_lt_of_le hk gd.below.size
      refine (hc.below.block k hkw fun h => ?_).trans (gd.below.block k hk hnL)
      exact (hL1 h).1.elim (fun h => absurd hk (Nat.not_lt.2 h)) hnL
    · rcases hg with hg | hg
      · exact Nat.lt_of_lt_of_le (g1.fsz g hg) hsz
      · exact hc.fsz g hg.2
    · rcases hg with hg | hg
      · exact g1.f0 g hg hn
      · exact absurd (hBs g hg.1) hn
    · rcases ext_some hu with ⟨j, rfl, hj⟩ | hu'
      · have hjl : j < sl.length := by rw [← hvl]; exact (List.getElem?_eq_some_iff.1 hj).1
        have hsj := List.getElem?_eq_getElem hjl
        by_cases hm : H.length + j ∈ mv
        · exact ⟨.dead, m2 _ hm, trivial⟩
        · exact ⟨_, e_new hsj hm, slot_base hBs ((hslot hsj hj).keep kpn fun _ _ _ => ⟨rfl, id⟩)⟩
      · obtain ⟨s0, h0, ok0⟩ := g1.dom q u hu'
        by_cases hq : q ∈ ord
        · by_cases hq2 : q ∈ hsL
          · obtain ⟨i, hi⟩ := List.getElem?_of_mem hq2
            obtain ⟨x, s1, s', hx, hbx, e1, e2, l1, l2, hk⟩ := root hi
            rw [hu'] at hbx; injection hbx with hbx; subst hbx
            refine ⟨s', e2, ?_⟩
            rcases hk with ⟨t, cs0, cs, g', arr, e, rfl, rfl, hxg, harr, hB, hnF, hcs, hvd⟩ | ⟨e, t, xs, j', e', xs', rfl, rfl, hm', hj', hvj⟩
            · exact ⟨g', arr, e, hxg, hBs g' hB, harr, hcs.mono fun _ _ => RepV.mono kpn, hnFa g' hB hnF⟩
            · exact slot_base hBs ((hslot hj' hvj).keep kpn fun _ _ _ => ⟨rfl, id⟩)
          · exact ⟨_, e_dead hq hq2 h0, trivial⟩
        · refine ⟨s0, e_old hq h0, ok0.keep kpf fun hl g hg => ?_⟩
          have hn := hold h0 hl hu' hg hq
          exact ⟨hmem g (ok0.lt hl hg).2.1 hn, fun hnF hor => hor.elim hnF fun h => hn h.1⟩
    · rcases cls e1 l1 b1 with ⟨a1, a2, a3⟩ | ⟨a1, a2, s0, a3, a4⟩ | ⟨j, a1, a2, a3, a4⟩ <;> rcases cls e2 l2 b2 with ⟨c1, c2, c3⟩ | ⟨c1, c2, s0', c3, c4⟩ | ⟨j', c1, c2, c3, c4⟩
      · exact g1.sep q q' s1 s2 u1 u2 g a1 c1 l1 l2 a3 c3 g1' g2'
      · exact g1.sep q q' s1 s0' u1 u2 g a1 c3 l1 c4 a3 c2 g1' g2'
      · exact absurd (hvB c3 g2') (hold a1 l1 a3 g1' a2)
      · exact g1.sep q q' s0 s2 u1 u2 g a3 c1 a4 l2 a2 c3 g1' g2'
      · exact g1.sep q q' s0 s0' u1 u2 g a3 c3 a4 c4 a2 c2 g1' g2'
      · subst c1; exact (hRC a1 a2 g1' c3 c2 g2').elim
      · exact absurd (hvB a3 g1') (hold c1 l2 c3 g2' c2)
      · subst a1; exact (hRC c1 c2 g2' a3 a2 g1').elim
      · rw [a1, c1, hdis j j' u1 u2 g a3 c3 g1' g2']
  refine ⟨Fa, β2, ?_⟩
  have hws : All2 (RepU Fa w' β2 H4) ((adoptT us H.length).1.drop hsL.length) ws := by
    have := hall3.drop hsL.length
    rw [List.drop_append, hctl] at this
    simp only [Nat.sub_self, List.drop_zero] at this
    rw [List.drop_of_length_le (l := cts) (by omega), List.nil_append] at this
    exact this.mono fun _ _ => RepU.mono kpn
  have hres : H4 = H3 ∧ RepA Fa w' β2 H4 v' v := by
    rw [hv]
    split at h
    · rename_i u hu
      rw [hu] at hws
      simp only [Option.map_eq_some_iff] at h
      obtain ⟨v1, h1, h2⟩ := h
      simp at h2
      obtain ⟨rfl, rfl⟩ := h2
      refine ⟨rfl, ?_⟩
      cases hws with
      | cons r t =>
        cases t
        simp only [oneOf]
        rw [dif_pos (by simp)]
        rcases u with ⟨b, cs⟩
        cases b with
        | true => simp [mkAV] at h1; subst h1; exact r
        | false =>
          obtain ⟨c, e, r⟩ := r
          have e : cs = [c] := e
          subst e
          simp [mkAV] at h1
          subst h1
          exact r
    · rename_i hne1
      simp at h
      obtain ⟨rfl, rfl⟩ := h
      refine ⟨rfl, ?_⟩
      have hl1 : ¬ ws.toArray.size = 1 := by
        intro h1
        have hl := hws.length
        simp at h1
        rw [h1] at hl
        obtain ⟨u, hu⟩ := List.length_eq_one_iff.1 hl
        exact hne1 u hu
      simp only [oneOf]
      rw [dif_neg hl1]
      exact ⟨ws.toArray, rfl, hws.mono fun u v h => h⟩
  obtain ⟨rfl, hra⟩ := hres
  exact ⟨good, k1.trans kpf, hra⟩
end
end Go.Proofs.Ytanpdkllnmeenaa.Am
namespace Go.Proofs.Ytanpdkllnmeenaa.Am
open Go Go.RowKit
set_option linter.unusedVariables false
set_option linter.unusedSectionVars false
set_option linter.unusedSimpArgs false
def Sim (L : Nat → Prop) (w0 : World) (F0 : Nat → Prop) (X : List Value) (st : St) (a : Act) (w : World) : Prop :=
  ∃ F β, Good L w0 w F0 F β st.heap ∧ (a.defers = [] ∧ All2 (RepV F w β st.heap) st.roots X) ∧ a.tmps.size = st.env.length ∧ ∀ t, RepA F w β st.heap (envAt st.env t) (a.tmps.getD t undef)
section
variable {P : Program} {C : Ctx} {F F' F1 F'' : Nat → Prop} {w w' : World} {β β' β0 : Bd} {H H' H1 G H0 : Heap}
variable {L : Nat → Prop} {w0 : World} {F0 : Nat → Prop} {n : Nat} {sl : List Slot} {env : List AV} {a : Act} {o : Oper} {v : AV} {base : Nat → Prop} {D : Nat → Prop} {st st' : St}
theorem put_at {env : List AV} {d : Option Tmp} {v : AV} {u : Value} (hsz : a.tmps.size = env.length) (hr : RepA F w β H v u) (h : ∀ t, RepA F w β H (envAt env t) (a.tmps.getD t undef)) : (∀ t, RepA F w β H (envAt (put env d v) t) ((a.put d u).tmps.getD t undef)) ∧ (a.put d u).tmps.size = (put env d v).length := by
  cases d with
  | none => exact ⟨h, hsz⟩
  | some d =>
    refine ⟨fun t => ?_, by simp [Act.put, put, hsz]⟩
    simp only [envAt, put, Act.put]
    rw [List.getD_eq_getElem?_getD, List.getElem?_set]
    by_cases hd : d = t
    · subst hd
      by_cases hlt : d < env.length
      · simp only [if_true, hlt, Option.getD_some]
        have : (a.tmps.setIfInBounds d u).getD d undef = u := by simp [hsz, hlt]
        rw [this]; exact hr
      · simp only [if_true, hlt, if_false, Option.getD_none]
        trivial
    · rw [if_neg hd]
      have : (a.tmps.setIfInBounds d u).getD t undef = a.tmps.getD t undef := by simp [Array.getElem?_setIfInBounds_ne hd]
      rw [this]
      have := h t
      rwa [envAt, List.getD_eq_getElem?_getD] at this
/-- A bool that is known. -/
theorem env_bool {env : List AV} {d : Nat} {b : Bool} (hr : RepA F w β H (envAt env d) (a.tmps.getD d undef)) (he : envAt env d = .one (.bool b)) : a.tmps[d]? = some (.bool b) := by
  rw [he] at hr
  have h : a.tmps.getD d undef = .bool b := hr
  cases hd : a.tmps[d]? with
  | none => rw [Array.getD_eq_getD_getElem?, hd] at h; simp [undef] at h
  | some x => rw [Array.getD_eq_getD_getElem?, hd] at h; simp at h; rw [h]
theorem env_set {env : List AV} {d : Nat} {b : Bool} (hsz : a.tmps.size = env.length) (h : ∀ t, RepA F w β H (envAt env t) (a.tmps.getD t undef)) (he : envAt env d = .one (.bool b)) : (∀ t, RepA F w β H (envAt (env.set d (.one (.bool b))) t) (a.tmps.getD t undef)) ∧ a.tmps.size = (env.set d (.one (.bool b))).length := by
  refine ⟨fun t => ?_, by simpa using hsz⟩
  have h0 := h t
  simp only [envAt] at h0 he ⊢
  rw [List.getD_eq_getElem?_getD, List.getElem?_set]
  by_cases hd : d = t
  · subst hd
    by_cases hlt : d < env.length
    · simp only [if_true, hlt, Option.getD_some]
      rw [he] at h0; exact h0
    · simp only [if_true, hlt, if_false, Option.getD_none]; trivial
  · rw [if_neg hd, ← List.getD_eq_getElem?_getD]; exact h0
/-- What is known of the functions that are called. -/
def CallS {R : Type} (P : Program) (call : CallK R) : Prop := ∀ g (vs : Pack) (K : AV → Option R) out, call g vs K = some out → ∃ r, K r = some out ∧ CallOK P g vs r
theorem sim_ops (gd : Good L w0 w F0 F β H) (h : ∀ t, RepA F w β H (envAt env t) (a.tmps.getD t undef)) (x : Operand) : OpOk F w β H env a x := opr_ok x fun t _ => h t
theorem pvcv_ok {q : PV} {c : CV} {u : Value} (h : q.cv = some c) (r : RepP F w β H q u) : RepV F w β H c u := by
  cases q with
  | val t x =>
    simp only [PV.cv] at h
    split at h
    · rename_i c' hc
      injection h with h
      subst h
      have := rep_flat (β := β) (H := H) (show RepC F w t x [u] from r)
      rw [hc] at this
      cases this with
      | cons r _ => exact r
    · simp at h
  | fptr t x off => simp [PV.cv] at h; subst h; exact r
  | ptr k i off => simp [PV.cv] at h; subst h; exact r
  | agg t x => simp [PV.cv] at h
theorem pvav_ok {q : PV} {c : AV} {u : Value} (h : q.av = some c) (r : RepP F w β H q u) : RepA F w β H c u := by
  cases q with
  | agg t x =>
    simp [PV.av] at h
    subst h
    obtain ⟨vs, e, r⟩ := r
    exact ⟨vs, e, rep_flat (β := β) (H := H) r⟩
  | val t x => simp only [PV.av, Option.map_eq_some_iff] at h; obtain ⟨c, h, rfl⟩ := h; exact pvcv_ok h r
  | fptr t x off => simp only [PV.av, Option.map_eq_some_iff] at h; obtain ⟨c, h, rfl⟩ := h; exact pvcv_ok h r
  | ptr t x off => simp only [PV.av, Option.map_eq_some_iff] at h; obtain ⟨c, h, rfl⟩ := h; exact pvcv_ok h r
theorem mapA_ok {α γ δ : Type} {f : α → Option γ} {R : α → δ → Prop} {S : γ → δ → Prop} : ∀ {l : List α} {m : List γ} {us : List δ}, (∀ x ∈ l, ∀ y u, R x u → f x = some y → S y u) → All2 R l us → mapA f l = some m → All2 S m us
  | [], m, _, _, .nil, h => by simp [mapA] at h; subst h; exact .nil
  | x :: l, m, _, hf, .cons r t, h => by
    simp only [mapA, Option.bind_eq_some_iff, Option.map_eq_some_iff] at h
    obtain ⟨y, h1, q, h2, rfl⟩ := h
    exact .cons (hf x (by simp) _ _ r h1) (mapA_ok (fun x hx => hf x (by simp [hx])) t h2)
theorem nilC_ok : ∀ {T : Ty} {cs : List CV} {vs : List Value}, All2 (RepV F w β H) cs vs → ∃ v1 v2, vs = v1 ++ v2 ∧ All2 (RepV F w β H) (nilC T cs).1 v1 ∧ All2 (RepV F w β H) (nilC T cs).2 v2
  | .sl t, _, _, .nil => ⟨[], [], rfl, .nil, .nil⟩
  | .sl t, _, _, @All2.cons _ _ _ c v l m hr ht => by
    refine ⟨[v], m, rfl, ?_⟩
    cases c <;> simp only [nilC] <;> first
      | exact ⟨.cons hr .nil, ht⟩
      | (cases hm : t.isMp with
         | true => exact ⟨.cons (by rw [show v = _ from hr]; rfl) .nil, ht⟩
         | false =>
           refine ⟨.cons ?_ .nil, ht⟩
           rw [show v = _ from hr]
           exact ⟨none, 0, by rw [hdr_sl hm]; rfl, Nat.le_refl _, .inl ⟨rfl, fun _ => rfl⟩⟩)
  | .pair a b, cs, vs, hr => by
    simp only [nilC]
    obtain ⟨v1, v2, rfl, r1, r2⟩ := nilC_ok (T := a) hr
    obtain ⟨v3, v4, rfl, r3, r4⟩ := nilC_ok (T := b) r2
    exact ⟨v1 ++ v3, v4, by simp, r1.append r3, r4⟩
  | .unit, cs, vs, hr => ⟨[], vs, rfl, .nil, hr⟩
  | .int _, _, _, .nil => ⟨[], [], rfl, .nil, .nil⟩
  | .int _, _, _, .cons hr ht => ⟨[_], _, rfl, .cons hr .nil, ht⟩
  | .bool, _, _, .nil => ⟨[], [], rfl, .nil, .nil⟩
  | .bool, _, _, .cons hr ht => ⟨[_], _, rfl, .cons hr .nil, ht⟩
  | .str, _, _, .nil => ⟨[], [], rfl, .nil, .nil⟩
  | .str, _, _, .cons hr ht => ⟨[_], _, rfl, .cons hr .nil, ht⟩
  | .opq, _, _, .nil => ⟨[], [], rfl, .nil, .nil⟩
  | .opq, _, _, .cons hr ht => ⟨[_], _, rfl, .cons hr .nil, ht⟩
theorem argD1_ok {b : Bool} {t : TypeId} {x : Operand} {u : AV} (hx : OpOk F w β H env a x) (h : argD1 C env b t x = some u) : RepA F w β H u (a.eval x) := by
  unfold argD1 at h
  split at h
  · exact hx _ h
  · simp only [Option.bind_eq_some_iff] at h
    obtain ⟨v, h1, h2⟩ := h
    have r := hx _ h1
    split at h2
    · injection h2 with h2; subst h2; exact r
    · rename_i ty _
      split at h2
      · rename_i c
        have := nilC_ok (T := ty) (All2.cons (show RepV F w β H c (a.eval x) from r) .nil)
        split at h2
        · rename_i c' he
          injection h2 with h2
          subst h2
          rw [he] at this
          obtain ⟨v1, v2, e, r1, r2⟩ := this
          cases r2
          cases r1 with
          | cons r1 t => cases t; simp at e; subst e; exact r1
        · simp at h2
      · rename_i cs
        obtain ⟨vs, hv, r⟩ := r
        have := nilC_ok (T := ty) r
        split at h2
        · rename_i c' he
          injection h2 with h2
          subst h2
          rw [he] at this
          obtain ⟨v1, v2, e, r1, r2⟩ := this
          cases r2
          exact ⟨vs, hv, by rw [e, List.append_nil]; exact r1⟩
        · simp at h2
      · simp at h2
theorem argD_ok {b : Bool} : ∀ {l : List Operand} {m : List TypeId} {us : List AV}, (∀ x ∈ l, OpOk F w β H env a x) → argD C env b l m = some us → All2 (RepA F w β H) us (l.map a.eval)
  | [], m, us, _, h => by simp [argD] at h; subst h; exact .nil
  | x :: l, [], us, _, h => by simp [argD] at h
  | x :: l, t :: m, us, hx, h => by
    simp only [argD, Option.bind_eq_some_iff, Option.map_eq_some_iff] at h
    obtain ⟨u, h1, r, h2, rfl⟩ := h
    exact .cons (argD1_ok (hx x (by simp)) h1) (argD_ok (fun y hy => hx y (by simp [hy])) h2)
theorem all2_map_one {cs : List CV} {us : List Value} (h : All2 (RepV F w β H) cs us) : All2 (RepA F w β H) (cs.map AV.one) us := by
  induction h with
  | nil => exact .nil
  | cons r _ ih => exact .cons r ih
/-- What a call is handed. -/
theorem argsOf_ok (gd : Good L w0 w F0 F β H) {c : Call} {pa pb : List PV} {va vb : Array Value} {vs : List AV} {hs : List Nat} (hE : ∀ x ∈ c.args, OpOk F w β H env a x)
    (ra : All2 (RepP F w β H) pa va.toList) (rb : All2 (RepP F w β H) pb vb.toList) (h : argsOf C env H c pa pb = some (vs, hs)) : All2 (RepA (FB F β H (Dp H hs)) w (fun _ => none) []) vs (va ++ c.args.map a.eval ++ vb).toList := by
  simp only [argsOf, Option.bind_eq_some_iff, Option.map_eq_some_iff] at h
  obtain ⟨us, h1, a', h2, b', h3, ws, h4, h5⟩ := h
  simp at h5
  obtain ⟨rfl, rfl⟩ := h5
  have r1 := mapA_ok (S := RepA F w β H) (fun x _ y u r hy => pvav_ok hy r) ra h2
  have r3 := mapA_ok (S := RepA F w β H) (fun x _ y u r hy => pvav_ok hy r) rb h3
  have r2 : All2 (RepA F w β H) us (c.args.map a.eval).toList := by
    rw [Array.toList_map]
    exact argD_ok (fun x hx => hE x (by simpa using hx)) h1
  have r : All2 (RepA F w β H) (a' ++ (us ++ b')) (va ++ c.args.map a.eval ++ vb).toList := by
    rw [Array.toList_append, Array.toList_append, List.append_assoc]
    exact r1.append (r2.append r3)
  refine mapA_ok (f := pureA H) (R := RepA F w β H) (fun x hx y u r hy => pureA_ok gd (dp_deep H _) r hy fun k hk => .base ?_) r h4
  simp only [List.mem_append, List.mem_flatMap] at hx ⊢
  rcases hx with hx | hx | hx
  · exact .inl ⟨x, hx, hk⟩
  · exact .inr (.inl ⟨x, hx, hk⟩)
  · exact .inr (.inr ⟨x, hx, hk⟩)
/-- What an operation is to show. -/
def StepOk (P : Program) (w0 w : World) (F0 F : Nat → Prop) (β : Bd) (H : Heap) (o : Oper) (a : Act) (v : AV) (H' : Heap) : Prop :=
  ∀ (next : Act → World → Prop) (Q : Exit → Act → World → Prop), (∀ v' w' F' β', Good L w0 w' F0 F' β' H' → Keeps F F' w w' β β' H H' → RepA F' w' β' H' v v' → next (a.put o.dst v') w') → o.wp P a w next Q
theorem quiet_step (gd : Good L w0 w F0 F β H) (cx : CtxOk P C) (henv : ∀ t, RepA F w β H (envAt env t) (a.tmps.getD t undef)) (h : opQ C env H H.length o = some (true, v, sl)) : StepOk (L := L) P w0 w F0 F β H o a v (H ++ sl) := by
  intro next Q hn
  obtain ⟨g1, k1⟩ := good_more gd sl
  have pre : Pre L w0 w F0 F β H (H ++ sl) H.length sl := ⟨g1, fun h s hs _ => by rw [List.getElem?_append_left (List.getElem?_eq_some_iff.1 hs).1]; exact hs, fun j s hs => by rw [List.getElem?_append_right (by omega)]; simpa using hs⟩
  have q := opQ_ok pre (fun x _ v hv => (sim_ops gd henv x v hv).mono k1) cx h
  obtain ⟨v', w', β', hr, g2, k2, r, _, _⟩ := good_quiet pre (fun j _ => free_end gd j) q
  unfold Oper.wp
  rw [hr]
  exact hn v' w' F β' g2 (k1.trans k2) r
theorem eff_step (gd : Good L w0 w F0 F β H) (cx : CtxOk P C) (henv : ∀ t, RepA F w β H (envAt env t) (a.tmps.getD t undef)) (h : opE C env H o = some (true, v, H')) : StepOk (L := L) P w0 w F0 F β H o a v H' := by
  intro next Q hn
  obtain ⟨nx, w', F', β', hr, g2, k2, hv⟩ := opE_ok gd (fun x _ => sim_ops gd henv x) cx h
  unfold Oper.wp
  rw [hr]
  rcases hv with ⟨v', rfl, r⟩ | ⟨rfl, rfl⟩
  · exact hn v' w' F' β' g2 k2 r
  · exact hn undef w' F' β' g2 k2 trivial
theorem callee_ok (henv : ∀ t, RepA F w β H (envAt env t) (a.tmps.getD t undef)) (gd : Good L w0 w F0 F β H) {f : Operand} {g : FuncId} {pa pb : List PV} (h : callee env f = some (g, pa, pb)) :
    ∃ va vb, a.eval f = .func (.func g) va vb ∧ All2 (RepP F w β H) pa va.toList ∧ All2 (RepP F w β H) pb vb.toList := by
  simp only [callee, Option.bind_eq_some_iff] at h
  obtain ⟨c, h1, h2⟩ := h
  have r := (sim_ops gd henv f).cell h1
  split at h2
  · simp at h2
    obtain ⟨rfl, rfl, rfl⟩ := h2
    exact r
  · simp at h2
theorem call_step {R : Type} {call : CallK R} (hc : CallS P call) (gd : Good L w0 w F0 F β H) (henv : ∀ t, RepA F w β H (envAt env t) (a.tmps.getD t undef)) {c : Call} {f : Operand} {g : FuncId} {pa pb : List PV} {vs : List AV} {hs : List Nat} {r : AV} {H1 : Heap}
    (ho : o.op = .call c) (hcal : c.callee = .value f) (h1 : callee env f = some (g, pa, pb)) (h2 : argsOf C env H c pa pb = some (vs, hs)) (hok : CallOK P g ⟨vs, [], []⟩ r)
    (hf : (match aliasA r with | false => some H | true => freeze H hs) = some H1) : StepOk (L := L) P w0 w F0 F β H o a (adoptA r H1.length).1 (H1 ++ (adoptA r H1.length).2) := by
  intro next Q hn
  obtain ⟨va, vb, hfv, ra, rb⟩ := callee_ok henv gd h1
  have hargs := argsOf_ok gd (fun x _ => sim_ops gd henv x) ra rb h2
  have hex : (execOp a.eval o).run P w = (callFunc g (va ++ c.args.map a.eval ++ vb)).run P w := by
    simp [execOp, ho, resolve, hcal, hfv, Deferred.ofValue, invoke]
  have hfb : ∀ b, FB F β H (Dp H hs) b → b < w.heap.size := by
    rintro b (h | ⟨h, u, s, _, hs', hl, hb, hg⟩)
    · exact gd.fsz b h
    · exact ((gd.slot hb hs').lt hl hg).2.1
  unfold Oper.wp
  rw [hex]
  rcases hok.to0 w _ _ hfb hargs with ⟨he, hcalls⟩ | ⟨v', w', F'', he, hres⟩
  · rw [he]
    refine hcalls.mono ?_
    rintro e w' ⟨v', F'', rfl, hres⟩
    obtain ⟨F', β', g2, k2, r2⟩ := call_ok gd hres hf
    exact hn v' w' F' β' g2 k2 r2
  · rw [he]
    obtain ⟨F', β', g2, k2, r2⟩ := call_ok gd hres hf
    exact hn v' w' F' β' g2 k2 r2
theorem mem_reach_newH {ord : List Nat} {h k : Nat} (e : newH ord h = some k) : h ∈ ord := List.mem_of_getElem? (newH_at e)
theorem rootC_ok {ord : List Nat} (gd : Good L w0 w F0 F β H) : ∀ {hsL : List Nat} {rts : List CV}, mapA (rootC H ord) hsL = some rts → (∀ h ∈ hsL, ∀ s, H[h]? = some s → s.isLive = true → ∃ u, β h = some u) →
    (∀ h ∈ hsL, h ∈ ord) ∧ All2 (fun h c => (∃ k t cs, c = .ptr k 0 0 ∧ H[h]? = some (.box t cs)) ∨ ∃ k e t xs, c = .ref k ∧ H[h]? = some (.row true e t xs)) hsL rts ∧
      ∃ X, All2 (fun h x => β h = some x) hsL X ∧ All2 (RepV F w (rn β ord) (ord.map fun h => renS ord (slotAt H h))) rts X
  | [], rts, h, _ => by simp [mapA] at h; subst h; exact ⟨fun h hh => by simp at hh, .nil, [], .nil, .nil⟩
  | h :: l, rts, hm, hb => by
    simp only [mapA, Option.bind_eq_some_iff, Option.map_eq_some_iff] at hm
    obtain ⟨c, h1, r, h2, rfl⟩ := hm
    obtain ⟨a1, a2, X, a3, a4⟩ := rootC_ok gd h2 fun q hq => hb q (by simp [hq])
    have hu0 := hb h (by simp)
    unfold rootC at h1
    split at h1
    case h_2 => simp at h1
    rename_i k hk
    have hk1 := newH_at hk
    have hm := mem_reach_newH hk
    split at h1
    · rename_i t cs hs
      injection h1 with h1
      subst h1
      have hH := slotAt_row hs (by simp)
      obtain ⟨u, hu⟩ := hu0 _ hH rfl
      have hbk : rn β ord k = some u := by simp [rn, hk1, hu]
      obtain ⟨g, arr, e, hug, _⟩ := gd.slot hu hH
      refine ⟨fun q hq => (List.mem_cons.1 hq).elim (fun e => e ▸ hm) (a1 q), .cons (.inl ⟨k, t, cs, rfl, hH⟩) a2, u :: X, .cons hu a3, .cons ?_ a4⟩
      have hsl : (ord.map fun h => renS ord (slotAt H h))[k]? = some (.box t (cs.map (ren1 ord))) := by rw [ren_slot hk1, hs]; rfl
      simp only [RepV, RepPtr, hsl]
      exact ⟨trivial, g, by rw [hbk, hug], hug⟩
    · rename_i e t xs hs
      injection h1 with h1
      subst h1
      have hH := slotAt_row hs (by simp)
      obtain ⟨u, hu⟩ := hu0 _ hH rfl
      have hbk : rn β ord k = some u := by simp [rn, hk1, hu]
      have ok := gd.slot hu hH
      refine ⟨fun q hq => (List.mem_cons.1 hq).elim (fun e => e ▸ hm) (a1 q), .cons (.inr ⟨k, e, t, xs, rfl, hH⟩) a2, u :: X, .cons hu a3, .cons ?_ a4⟩
      have hsl : (ord.map fun h => renS ord (slotAt H h))[k]? = some (.row true e t xs) := by rw [ren_slot hk1, hs]; rfl
      simp only [RepV, hsl]
      refine ⟨hbk, ?_⟩
      obtain ⟨⟨_, ho, _⟩, _⟩ := ok
      exact ownsT_one ho
    · simp at h1
theorem ptr_beta {h i off : Nat} {u : Value} (r : RepPtr β H h i off u) {s : Slot} (hs : H[h]? = some s) (hl : s.isLive = true) : ∃ u, β h = some u := by
  unfold RepPtr at r
  rw [hs] at r
  cases s with
  | dead => simp [Slot.isLive] at hl
  | row l e t xs => obtain ⟨_, g, o, n, c, hb, _⟩ := r; exact ⟨_, hb⟩
  | box t cs => obtain ⟨_, g, hb, _⟩ := r; exact ⟨_, hb⟩
  | iter => exact r.elim
theorem pv_beta {q : PV} {u : Value} (r : RepP F w β H q u) {h : Nat} (hh : h ∈ hsP q) {s : Slot} (hs : H[h]? = some s) (hl : s.isLive = true) : ∃ u, β h = some u := by
  cases q with
  | ptr k i off => simp [hsP] at hh; subst hh; exact ptr_beta r hs hl
  | _ => simp [hsP] at hh
theorem pvs_beta {l : List PV} {us : List Value} (r : All2 (RepP F w β H) l us) {h : Nat} (hh : h ∈ l.flatMap hsP) {s : Slot} (hs : H[h]? = some s) (hl : s.isLive = true) : ∃ u, β h = some u := by
  obtain ⟨q, hq, hh⟩ := List.mem_flatMap.1 hh
  obtain ⟨i, hi⟩ := List.getElem?_of_mem hq
  obtain ⟨u, _, r⟩ := r.get hi
  exact pv_beta r hh hs hl
theorem lentAt_beta {ls : List Nat} : ∀ {us : List AV} {vs : List Value} {i : Nat}, All2 (RepA F w β H) us vs → ∀ {h : Nat}, h ∈ lentAt C ls i us → ∀ {s : Slot}, H[h]? = some s → s.isLive = true → ∃ u, β h = some u
  | [], _, _, _, h, hh, _, _, _ => by simp [lentAt] at hh
  | v :: r, b :: bs, i, .cons rv t, h, hh, s, hs, hl => by
    simp only [lentAt, List.mem_append] at hh
    rcases hh with hh | hh
    · split at hh
      · unfold lentC at hh
        split at hh
        · simp at hh
          subst hh
          have rv : RepV F w β H (.ref _) b := rv
          simp only [RepV, hs] at rv
          cases s with
          | dead => simp [Slot.isLive] at hl
          | row => exact ⟨_, rv.1⟩
          | box => exact rv.elim
          | iter => exact ⟨_, rv.1⟩
        · simp at hh
          subst hh
          exact ptr_beta (show RepPtr β H _ _ _ b from rv) hs hl
        · simp at hh
      · unfold lentV at hh
        split at hh
        · split at hh
          · have rv : RepV F w β H (.fn _ _ _) b := rv
            obtain ⟨va, vb, _, ra, rb⟩ := rv
            rcases List.mem_append.1 hh with hh | hh
            · exact pvs_beta ra hh hs hl
            · exact pvs_beta rb hh hs hl
          · simp at hh
        · simp at hh
    · exact lentAt_beta t hh hs hl
theorem lend_step (gd : Good L w0 w F0 F β H) (henv : ∀ t, RepA F w β H (envAt env t) (a.tmps.getD t undef)) {c : Call} {f : Operand} {g : FuncId} {pa pb : List PV} {h0 : Nat} {hsL hs ord : List Nat} {pk : Pack} {r v' : AV} {H' : Heap}
    (ho : o.op = .call c) (hcal : c.callee = .value f) (h1 : callee env f = some (g, pa, pb)) (h2 : packOf C env H c pa pb (h0 :: hsL) = some (pk, hs, ord)) (hok : CallOK P g pk r)
    (hf : afterL H (h0 :: hsL) hs ord r = some (v', H')) (h3 : lentOf C env g c pa pb = some (h0 :: hsL)) : StepOk (L := L) P w0 w F0 F β H o a v' H' := by
  intro next Q hn
  obtain ⟨va, vb, hfv, ra, rb⟩ := callee_ok henv gd h1
  simp only [packOf, Option.bind_eq_some_iff] at h2
  obtain ⟨us, q1, a', q2, b', q3, h2⟩ := h2
  split at h2
  · simp at h2
  rename_i hchk
  simp only [Bool.and_eq_true, decide_eq_true_eq, List.all_eq_true] at hchk
  obtain ⟨hnd, hnl, hrow⟩ := hchk
  simp only [Option.bind_eq_some_iff, Option.map_eq_some_iff] at h2
  obtain ⟨us', q4, rts, q5, h2⟩ := h2
  simp only [Prod.mk.injEq] at h2
  obtain ⟨rfl, rfl, rfl⟩ := h2
  generalize hordE : reach H (H.length * 8 + 64) (h0 :: hsL) [] = ord at *
  have hbeta : ∀ h ∈ h0 :: hsL, ∀ s, H[h]? = some s → s.isLive = true → ∃ u, β h = some u := fun h hh s hs hl => by
    simp only [lentOf, Option.map_eq_some_iff] at h3
    obtain ⟨us, q1, h3⟩ := h3
    rw [← h3] at hh
    have e2 : All2 (RepA F w β H) us (c.args.map a.eval).toList := by
      rw [Array.toList_map]
      exact argD_ok (fun x _ => sim_ops gd henv x) q1
    rcases List.mem_append.1 hh with hh | hh
    · split at hh
      · rcases List.mem_append.1 hh with hh | hh
        · exact pvs_beta ra hh hs hl
        · exact pvs_beta rb hh hs hl
      · simp at hh
    · exact lentAt_beta e2 hh hs hl
  obtain ⟨hord, hrr, X, hX, hrX⟩ := rootC_ok gd q5 hbeta
  have e1 := mapA_ok (S := RepA F w β H) (fun x _ y u r hy => pvav_ok hy r) ra q2
  have e3 := mapA_ok (S := RepA F w β H) (fun x _ y u r hy => pvav_ok hy r) rb q3
  have e2 : All2 (RepA F w β H) us (c.args.map a.eval).toList := by
    rw [Array.toList_map]
    exact argD_ok (fun x _ => sim_ops gd henv x) q1
  have e : All2 (RepA F w β H) (a' ++ (us ++ b')) (va ++ c.args.map a.eval ++ vb).toList := by
    rw [Array.toList_append, Array.toList_append, List.append_assoc]
    exact e1.append (e2.append e3)
  have hrows : ∀ h ∈ ((a' ++ (us ++ b')).flatMap hsA).filter (fun h => !ord.contains h), (∃ l e t xs, H[h]? = some (.row l e t xs)) ∧ h ∉ ord := fun h hh => by
    have h9 := hrow h hh
    refine ⟨?_, by simpa using (List.mem_filter.1 hh).2⟩
    unfold isRow at h9
    split at h9
    · rename_i l e t xs hs
      exact ⟨l, e, t, xs, slotAt_row hs (by simp)⟩
    · simp at h9
  have hD : ∀ h, Dp H (((a' ++ (us ++ b')).flatMap hsA).filter (fun h => !ord.contains h)) h → h ∉ ord := fun h hd => (hrows h (dp_rows (fun h hh => (hrows h hh).1) hd)).2
  have hargs := mapA_ok (f := packA H ord) (R := RepA F w β H) (S := RepA (FB F β H (Dp H (((a' ++ (us ++ b')).flatMap hsA).filter (fun h => !ord.contains h)))) w (rn β ord) (ord.map fun h => renS ord (slotAt H h))) (fun x hx y u r hy => packA_ok gd (dp_deep H _) r hy fun k hk hko => .base (List.mem_filter.2 ⟨List.mem_flatMap.2 ⟨x, hx, hk⟩, by simpa using hko⟩)) e q4
  have hex : (execOp a.eval o).run P w = (callFunc g (va ++ c.args.map a.eval ++ vb)).run P w := by
    simp [execOp, ho, resolve, hcal, hfv, Deferred.ofValue, invoke]
  have fin : ∀ {v : Value} {w' : World} {F' : Nat → Prop}, CResL (lendL β H ord) w (FB F β H (Dp H _)) X r v w' F' → ∃ F2 β2, Good L w0 w' F0 F2 β2 H' ∧ Keeps F F2 w w' β β2 H H' ∧ RepA F2 w' β2 H' v' v := fun hres =>
    after_ok gd hord hnl hrows hrr hX (by cases hX; simp) hres hf
  unfold Oper.wp
  rw [hex]
  rcases hok (lendL β H ord) w _ (rn β ord) _ X (lend_good gd hnd hD) hargs (hrX.mono fun _ _ => RepV.mono fb_keeps) with ⟨he, hcalls⟩ | ⟨v', w', F'', he, hres⟩
  · rw [he]
    refine hcalls.mono ?_
    rintro e w' ⟨v', F'', rfl, hres⟩
    obtain ⟨F', β', g2, k2, r2⟩ := fin hres
    exact hn _ w' F' β' g2 k2 r2
  · rw [he]
    obtain ⟨F', β', g2, k2, r2⟩ := fin hres
    exact hn _ w' F' β' g2 k2 r2
theorem pick_step (gd : Good L w0 w F0 F β H) (henv : ∀ t, RepA F w β H (envAt env t) (a.tmps.getD t undef)) {c x y : Operand} {t : Bool} (ho : o.op = .pick c x y) (h1 : oprC env c = some (.bool t)) (h2 : opr env (if t then x else y) = some v) : StepOk (L := L) P w0 w F0 F β H o a v H := by
  intro next Q hn
  have hcv : a.eval c = .bool t := (sim_ops gd henv c).cell h1
  have r := sim_ops gd henv _ _ h2
  have : (execOp a.eval o).run P w = .ok (.value (a.eval (if t then x else y))) w := by
    simp only [execOp, ho, hcv, asBool]
    cases t <;> simp
  unfold Oper.wp
  rw [this]
  exact hn _ w F β gd ⟨fun _ h => h, fun _ _ => rfl, fun _ _ h => h, fun h s hs => ⟨s, hs, like_refl s⟩⟩ r
theorem gen_ok {R : Type} {quiet : Bool} {K : AV → Heap → Option R} {out : R} (gd : Good L w0 w F0 F β H) (cx : CtxOk P C) (henv : ∀ t, RepA F w β H (envAt env t) (a.tmps.getD t undef))
    (h : (match opQ C env H H.length o with
      | some (b, v, sl) => match b with | true => K v (H ++ sl) | false => none
      | none => if quiet then none else match opE C env H o with
        | some (b, v, H') => match b with | true => K v H' | false => none
        | none => none) = some out) : ∃ v H', K v H' = some out ∧ StepOk (L := L) P w0 w F0 F β H o a v H' := by
  split at h
  · rename_i b v sl hq
    cases b with
    | false => simp at h
    | true => exact ⟨v, _, h, quiet_step gd cx henv hq⟩
  · split at h
    · simp at h
    · split at h
      · rename_i b v H' he
        cases b with
        | false => simp at h
        | true => exact ⟨v, H', h, eff_step gd cx henv he⟩
      · simp at h
/-! ### A range's next step -/
theorem pick_all {V R : Type} {es : List (Unit × Int × V)} {seen : List Nat} {over : Option R} {f : Nat → (Unit × Int × V) → Option R} {out : R} (h : pickAll es seen over f = some out) :
    (∀ i x, ¬ i ∈ seen → es[i]? = some x → f i x = some out) ∧ ((∀ i, i < es.length → i ∈ seen) → over = some out) := by
  unfold pickAll at h
  have mem : ∀ i x, (i, x) ∈ ((cands es.length seen).filterMap fun i => (es[i]?).map fun x => (i, x)) ↔ ¬ i ∈ seen ∧ es[i]? = some x := fun i x => by
    simp only [List.mem_filterMap, cands, List.mem_filter, List.mem_range, Option.map_eq_some_iff, Prod.mk.injEq]
    constructor
    · rintro ⟨j, ⟨_, h2⟩, y, h3, rfl, rfl⟩
      exact ⟨by simpa using h2, h3⟩
    · rintro ⟨h1, h2⟩
      exact ⟨i, ⟨(List.getElem?_eq_some_iff.1 h2).1, by simpa using h1⟩, x, h2, rfl, rfl⟩
  split at h
  · rename_i hl
    refine ⟨fun i x h1 h2 => ?_, fun _ => h⟩
    have := (mem i x).2 ⟨h1, h2⟩
    rw [hl] at this
    simp at this
  · rename_i p r hl
    split at h
    case isFalse => simp at h
    rename_i hall
    refine ⟨fun i x h1 h2 => ?_, fun hs => ?_⟩
    · have := (mem i x).2 ⟨h1, h2⟩
      rw [hl] at this
      rcases List.mem_cons.1 this with e | e
      · rw [← h, ← e]
      · rw [hall _ e, h]
    · have := (mem p.1 p.2).1 (by rw [hl]; simp)
      exact absurd (hs _ (List.getElem?_eq_some_iff.1 this.2).1) this.1
theorem next_step {R : Type} {K : AV → Heap → Option R} {out : R} (gd : Good L w0 w F0 F β H) (henv : ∀ t, RepA F w β H (envAt env t) (a.tmps.getD t undef)) {x : Operand} {h : Nat} {k : IntKind} {v0 : Ty} {es : List (Unit × Int × v0.den)} {seen : List Nat} (ho : o.op = .next x false) (h1 : oprC env x = some (.ref h)) (hs : slotAt H h = .iter k v0 es seen)
    (hp : pickAll es seen (K (.tup [(false, [.bool false])]) H) (fun i e => K (.tup [(false, [.bool true]), (false, [.int k e.2.1]), (v0.isAgg, flat v0 e.2.2)]) (H.set h (.iter k v0 es (seen ++ [i])))) = some out) : ∃ v H', K v H' = some out ∧ StepOk (L := L) P w0 w F0 F β H o a v H' := by
  obtain ⟨p1, p2⟩ := pick_all hp
  have rx := (sim_ops gd henv x).cell h1
  have hH := slotAt_row hs (by simp)
  simp only [RepV, hH] at rx
  obtain ⟨gi, g, arr, hu, hbase, hnF, hgi, hFg, hg, hm, hseen⟩ := gd.slot rx.1 hH
  have hlen := hm.2.length
  have hold : ∀ e ∈ arr.toList, e.born < arr.size := fun e he => by
    obtain ⟨i, hi⟩ := List.getElem?_of_mem he
    have hil := (List.getElem?_eq_some_iff.1 hi).1
    rw [Array.getElem?_toList] at hi
    rw [hm.1 i e hi]
    simpa using hil
  rcases run_next_at (P := P) w o.type gi g arr.size arr.size seen.toArray arr arr.size hgi hg hold (Nat.le_refl _) with ⟨hz, hrun⟩ | ⟨e, he, w1, hw1, hrun⟩
  · refine ⟨_, _, p2 fun i hi => ?_, fun next Q hn => ?_⟩
    · refine Classical.byContradiction fun hns => ?_
      have hia : i < arr.size := by simp at hlen; omega
      have : arr[i] ∈ (leftOf arr seen.toArray).toList := by
        simp only [leftOf, Array.toList_filter, List.mem_filter]
        refine ⟨by simp, ?_⟩
        have := hm.1 i arr[i] (by simp [hia])
        rw [this]
        simpa using hns
      have hle := List.length_pos_of_mem this
      simp at hle
      omega
    · unfold Oper.wp
      have : (execOp a.eval o).run P w = .ok (.value (.tuple #[.bool false])) w := by
        simp [execOp, ho, hu, hrun]
      rw [this]
      exact hn _ w F β gd ⟨fun _ h => h, fun _ _ => rfl, fun _ _ h => h, fun h s hs => ⟨s, hs, like_refl s⟩⟩ ⟨_, rfl, .cons ⟨_, rfl, rfl⟩ .nil⟩
  · simp only [leftOf, Array.toList_filter, List.mem_filter] at he
    obtain ⟨hea, hen⟩ := he
    obtain ⟨i, hi⟩ := List.getElem?_of_mem hea
    have hi' : arr[i]? = some e := by rwa [Array.getElem?_toList] at hi
    have hborn := hm.1 i e hi'
    obtain ⟨y, hy, hek, hev⟩ := hm.2.get hi
    have hns : ¬ i ∈ seen := by rw [hborn] at hen; simpa using hen
    refine ⟨_, _, p1 i y hns hy, fun next Q hn => ?_⟩
    unfold Oper.wp
    have : (execOp a.eval o).run P w = .ok (.value (.tuple #[.bool true, e.key, e.val])) (Go.ChangeMaps.setBlock w1 gi (.mapIter (some g) arr.size (seen.toArray.push e.born) arr.size)) := by
      simp [execOp, ho, hu, hrun]
    rw [this]
    have hh1 : w1.heap = w.heap := by rcases hw1 with rfl | rfl <;> rfl
    have hne : ∀ q, q ≠ gi → (Go.ChangeMaps.setBlock w1 gi (.mapIter (some g) arr.size (seen.toArray.push e.born) arr.size)).heap[q]? = w.heap[q]? := fun q hq => by
      simp only [Go.ChangeMaps.setBlock, hh1]
      rw [Array.getElem?_setIfInBounds_ne (by omega)]
    have hgne : g ≠ gi := fun e => hnF (e ▸ hFg)
    obtain ⟨g2, k2⟩ := good_write (w' := Go.ChangeMaps.setBlock w1 gi (.mapIter (some g) arr.size (seen.toArray.push e.born) arr.size)) gd hH rfl rx.1 (g := gi) (by rw [hu]; rfl) (s' := .iter k v0 es (seen ++ [i])) trivial
      ⟨by rcases hw1 with rfl | rfl <;> rfl, by rcases hw1 with rfl | rfl <;> rfl, by rcases hw1 with rfl | rfl <;> rfl, by simp [Go.ChangeMaps.setBlock, hh1], fun q hq => by omega⟩ (by simp [Go.ChangeMaps.setBlock, hh1]) hne fun kp => by
        refine ⟨gi, g, arr, hu, hbase, hnF, ?_, hFg, (hne g hgne).trans hg, hm.mono kp.f kp.w, fun j hj => ?_⟩
        · have hlt := (Array.getElem?_eq_some_iff.1 hgi).1
          simp [Go.ChangeMaps.setBlock, hh1, hlt, hborn]
        · rcases List.mem_append.1 hj with hj | hj
          · exact hseen j hj
          · simp at hj
            subst hj
            exact (Array.getElem?_eq_some_iff.1 hi').1
    refine hn _ _ F β g2 k2 ?_
    refine ⟨_, rfl, .cons ⟨_, rfl, rfl⟩ (.cons ⟨_, rfl, hek⟩ (.cons ?_ .nil))⟩
    have hev2 := hev.mono k2.f k2.w
    unfold ValR at hev2
    cases hv : v0.isAgg with
    | true =>
      simp only [hv] at hev2 ⊢
      obtain ⟨b, e1, e2⟩ := hev2
      exact ⟨b, e1, rep_flat e2⟩
    | false =>
      simp only [hv] at hev2 ⊢
      have := rep_flat (β := β) (H := H.set h (.iter k v0 es (seen ++ [i]))) hev2
      cases hf : flat v0 y.2.2 with
      | nil => rw [hf] at this; cases this
      | cons c r =>
        rw [hf] at this
        cases this with
        | cons r1 r2 =>
          cases r2
          exact ⟨c, rfl, r1⟩
theorem both_ok {R : Type} {x y : Option R} {out : R} (h : both x y = some out) : x = some out ∧ y = some out := by
  unfold both at h
  split at h
  · rename_i e; exact ⟨h, e ▸ h⟩
  · simp at h
/-- A slice is compared with nil. -/
theorem nil_step {R : Type} {K : AV → Heap → Option R} {out : R} (gd : Good L w0 w F0 F β H) (cx : CtxOk P C) (henv : ∀ t, RepA F w β H (envAt env t) (a.tmps.getD t undef)) {op : BinOp} {t r : TypeId} {x y : Operand} {e : Bool} (ho : o.op = .binOp op t x y r) (hT : nilT C env op t x y = some e)
    (h : (match (generalizing := false) e with
      | true => both (K (.one (.bool true)) H) (K (.one (.bool false)) H)
      | false => K (.one (.bool false)) H) = some out) : ∃ v H', K v H' = some out ∧ StepOk (L := L) P w0 w F0 F β H o a v H' := by
  unfold nilT at hT
  split at hT
  case h_2 => simp at hT
  split at hT
  case h_2 => simp at hT
  rename_i T hty
  simp only [Option.bind_eq_some_iff] at hT
  obtain ⟨c, h1, h2⟩ := hT
  split at h2
  case h_2 => simp at h2
  rename_i T' xs
  split at h2
  · simp at h2
  rename_i hm
  injection h2 with h2
  simp only [Bool.or_eq_false_iff] at hm
  have rx := (sim_ops gd henv x).cell h1
  obtain ⟨A, cap, hv, hle, hA⟩ := rx
  rw [hdr_sl hm.2] at hv
  simp at hv
  obtain ⟨d, i, z, tk⟩ := cx.ty _ _ hty
  obtain ⟨hd, _⟩ := tk.sl _ rfl hm.1
  have hrun : (execOp a.eval o).run P w = .ok (.value (.bool A.isNone)) w := by
    have hu := tk.und
    rw [hd] at hu
    have hy : a.eval (.const (.slice none 0 0)) = .slice none 0 0 := rfl
    simp [execOp, ho, hv, hy, eqGuard, Lib.run_eql_slice_nil w t _ A xs.length cap 0 0 hu]
  have step : StepOk (L := L) P w0 w F0 F β H o a (.one (.bool A.isNone)) H := by
    intro next Q hn
    unfold Oper.wp
    rw [hrun]
    exact hn _ w F β gd ⟨fun _ h => h, fun _ _ => rfl, fun _ _ h => h, fun h s hs => ⟨s, hs, like_refl s⟩⟩ rfl
  cases e with
  | true =>
    obtain ⟨e1, e2⟩ := both_ok h
    cases hA' : A.isNone with
    | true => rw [hA'] at step; exact ⟨_, H, e1, step⟩
    | false => rw [hA'] at step; exact ⟨_, H, e2, step⟩
  | false =>
    have hA' : A.isNone = false := by
      rcases hA with ⟨hx, _⟩ | ⟨g, o', cells, hA, _⟩
      · rw [hx] at h2; simp at h2
      · rw [hA]; rfl
    rw [hA'] at step
    exact ⟨_, H, h, step⟩
theorem doK_ok {R : Type} {call : CallK R} {quiet : Bool} {K : AV → Heap → Option R} {out : R} (hc : CallS P call) (gd : Good L w0 w F0 F β H) (cx : CtxOk P C) (henv : ∀ t, RepA F w β H (envAt env t) (a.tmps.getD t undef))
    (h : doK C call quiet o env H K = some out) : ∃ v H', K v H' = some out ∧ StepOk (L := L) P w0 w F0 F β H o a v H' := by
  unfold doK at h
  split at h
  · rename_i c x y ho
    split at h
    · rename_i t h1
      cases t with
      | true =>
        simp only [] at h
        split at h
        · rename_i v hv; exact ⟨v, H, h, pick_step gd henv ho h1 (by simpa using hv)⟩
        · simp at h
      | false =>
        simp only [] at h
        split at h
        · rename_i v hv; exact ⟨v, H, h, pick_step gd henv ho h1 (by simpa using hv)⟩
        · simp at h
    · simp at h
  · rename_i x s ho
    split at h
    case h_2 => simp at h
    split at h
    case h_2 => simp at h
    rename_i hh h1
    split at h
    case h_2 => simp at h
    rename_i k v0 es seen hs
    exact next_step gd henv ho h1 hs h
  · rename_i op t x y r ho
    split at h
    · rename_i e _ _ hT
      exact nil_step gd cx henv ho hT h
    · exact gen_ok gd cx henv h
  · rename_i c ho
    split at h
    · rename_i f hcal
      split at h
      · simp at h
      · rename_i g pa pb h1
        split at h
        · simp at h
        · rename_i hlen
          split at h
          · simp at h
          · rename_i vs hs h2
            obtain ⟨r, h3, hok⟩ := hc _ _ _ _ h
            split at h3
            · simp at h3
            · rename_i H1 h4
              have h4' : (match aliasA r with | false => some H | true => freeze H hs) = some H1 := by
                revert h4
                cases aliasA r with
                | false => exact id
                | true =>
                  simp only []
                  intro h4
                  split at h4
                  · simp at h4
                  · exact h4
              exact ⟨_, _, h3, call_step hc gd henv ho hcal h1 h2 hok h4'⟩
        · rename_i h0 hsL hlent
          split at h
          · simp at h
          · split at h
            · simp at h
            · rename_i pk hs ord h2
              obtain ⟨r, h3, hok⟩ := hc _ _ _ _ h
              split at h3
              · simp at h3
              · rename_i r' H1 h4
                exact ⟨_, _, h3, lend_step gd henv ho hcal h1 h2 hok h4 hlent⟩
    · exact gen_ok gd cx henv h
  · exact gen_ok gd cx henv h
end
end Go.Proofs.Ytanpdkllnmeenaa.Am
namespace Go.Proofs.Ytanpdkllnmeenaa.Am
open Go Go.RowKit
set_option linter.unusedVariables false
set_option linter.unusedSectionVars false
set_option linter.unusedSimpArgs false
section
variable {P : Program} {C : Ctx} {F F' F1 F'' : Nat → Prop} {w w' : World} {β β' β0 : Bd} {H H' H1 G H0 : Heap}
variable {L : Nat → Prop} {X : List Value} {w0 : World} {F0 : Nat → Prop} {n : Nat} {sl : List Slot} {env : List AV} {a : Act} {o : Oper} {v : AV} {base : Nat → Prop} {D : Nat → Prop} {st st' : St}
theorem sim_next (gd : Good L w0 w F0 F β st.heap) (hd : a.defers = [] ∧ All2 (RepV F w β st.heap) st.roots X) (hsz : a.tmps.size = st.env.length) (henv : ∀ t, RepA F w β st.heap (envAt st.env t) (a.tmps.getD t undef)) {v' : Value} {d : Option Tmp} (g2 : Good L w0 w' F0 F' β' H') (k2 : Keeps F F' w w' β β' st.heap H') (r : RepA F' w' β' H' v v') :
    Sim L w0 F0 X ⟨put st.env d v, H', st.roots⟩ (a.put d v') w' := by
  obtain ⟨h1, h2⟩ := put_at (d := d) hsz r fun t => (henv t).mono k2
  exact ⟨F', β', g2, ⟨by cases d <;> exact hd.1, hd.2.mono fun _ _ => RepV.mono k2⟩, h2, h1⟩
theorem rep_skip {F : Nat → Prop} {w : World} {β : Bd} {H : Heap} : RepA F w β H (.tup []) undef := ⟨#[], rfl, .nil⟩
theorem skip_eq {F : Nat → Prop} {w : World} {β : Bd} {H : Heap} {u : Value} (h : RepA F w β H (.tup []) u) : u = undef := by
  obtain ⟨vs, rfl, h⟩ := h
  have : vs.toList = [] := by cases h' : vs.toList with | nil => rfl | cons x r => rw [h'] at h; cases h
  have : vs = #[] := by cases vs; simp at this; simp [this]
  rw [this]; rfl
theorem yield_skip {ops : Array Oper} {tmps : Array Value} {F : Nat → Prop} {w : World} {β : Bd} {H : Heap} {env : List AV} {j d : Nat} (hdst : (ops[j]?).bind (·.dst) = some d) (h : RepA F w β H (envAt env d) (tmps.getD d undef)) (hb : envAt env d = .tup []) : yielded ops tmps j = none := by
  rw [hb] at h
  have e := skip_eq h
  unfold yielded
  rw [hdst]
  simp only [Option.bind_some]
  rw [Array.getD_eq_getD_getElem?] at e
  cases hx : tmps[d]? with
  | none => rfl
  | some x =>
    rw [hx] at e
    simp at e
    subst e
    rfl
theorem opsK_ok {R : Type} {call : CallK R} {ops : Array Oper} {Q : Exit → Act → World → Prop} (hc : CallS P call) (cx : CtxOk P C) : ∀ (l : List Oper) (q : Nat) (st : St) (a : Act) (w : World) (K : St → Option R) (out : R), opsK C call ops q [] l st K = some out → Sim L w0 F0 X st a w →
    (∀ st' a' w', K st' = some out → Sim L w0 F0 X st' a' w' → Q .normal a' w') → wpList P ops Q l a w
  | [], q, st, a, w, K, out, h, hs, hQ => by
    simp only [opsK] at h
    exact hQ st a w h hs
  | o :: rest, q, st, a, w, K, out, h, hs, hQ => by
    obtain ⟨F, β, gd, hd, hsz, henv⟩ := hs
    simp only [opsK, List.headD_nil, List.tail_nil] at h
    unfold wpList
    split at h
    · rename_i hg
      rw [if_pos (by simp [Region.wanted, hg])]
      left
      obtain ⟨v, H', h1, hst⟩ := doK_ok hc gd cx henv h
      exact hst _ _ fun v' w' F' β' g2 k2 r => opsK_ok hc cx rest _ _ _ _ K out h1 (sim_next gd hd hsz henv g2 k2 r) hQ
    · rename_i j want hg
      split at h
      · simp at h
      · rename_i d hdst
        split at h
        case h_3 => simp at h
        case h_2 =>
          rename_i hb
          rw [if_neg (by simp [Region.wanted, hg, yield_skip hdst (henv d) hb])]
          exact opsK_ok hc cx rest _ _ _ _ K out h (sim_next gd hd hsz henv gd ⟨fun _ h => h, fun _ _ => rfl, fun _ _ h => h, fun h s hs => ⟨s, hs, like_refl s⟩⟩ rep_skip) hQ
        rename_i b hb
        have hyield : yielded ops a.tmps j = some b := by
          unfold yielded
          rw [hdst]
          simp only [Option.bind_some, env_bool (henv d) hb]
        have hwant : Region.wanted o (yielded ops a.tmps) = (b == want) := by
          simp [Region.wanted, hg, hyield]
        obtain ⟨henv2, hsz2⟩ := env_set hsz henv hb
        have go : ∀ {b' : Bool}, b' = b → doK C call (0 < q) o (st.env.set d (.one (.bool b'))) st.heap (fun v H => opsK C call ops (q - 1) [] rest ⟨put (st.env.set d (.one (.bool b'))) o.dst v, H, st.roots⟩ K) = some out → o.wp P a w (wpList P ops Q rest) Q := fun {b'} e hh => by
          subst e
          obtain ⟨v, H', h1, hst⟩ := doK_ok hc gd cx henv2 hh
          exact hst _ _ fun v' w' F' β' g2 k2 r => opsK_ok hc cx rest _ _ _ _ K out h1 (sim_next (st := ⟨st.env.set d (.one (.bool b')), st.heap, st.roots⟩) gd hd hsz2 henv2 g2 k2 r) hQ
        have skip : ∀ {b' : Bool}, b' = b → opsK C call ops (q - 1) [] rest ⟨put (st.env.set d (.one (.bool b'))) o.dst (.tup []), st.heap, st.roots⟩ K = some out → wpList P ops Q rest (a.put o.dst undef) w := fun {b'} e hh => by
          subst e
          exact opsK_ok hc cx rest _ _ _ _ K out hh (sim_next (st := ⟨st.env.set d (.one (.bool b')), st.heap, st.roots⟩) gd hd hsz2 henv2 gd ⟨fun _ h => h, fun _ _ => rfl, fun _ _ h => h, fun h s hs => ⟨s, hs, like_refl s⟩⟩ rep_skip) hQ
        cases b with
        | true =>
          simp only [] at h
          cases want with
          | true => rw [if_pos (by simp [hwant])]; exact .inl (go rfl h)
          | false => rw [if_neg (by simp [hwant])]; exact skip rfl h
        | false =>
          simp only [] at h
          cases want with
          | true => rw [if_neg (by simp [hwant])]; exact skip rfl h
          | false => rw [if_pos (by simp [hwant])]; exact .inl (go rfl h)

/-! ### New numbers -/
theorem norm_ok {live : List Nat} (h : norm live st = some st') (hs : Sim L w0 F0 X st a w) : Sim L w0 F0 X st' a w := by
  obtain ⟨F, β, gd, hd, hsz, henv⟩ := hs
  unfold norm at h
  simp only [] at h
  split at h
  · rename_i hn
    injection h with h
    subst h
    exact ⟨F, _, good_ren gd hn, ⟨hd.1, all2_map (fun _ _ r => ren1_ok r) hd.2⟩, by simp [keep_len, hsz], keep_at (us := fun i => a.tmps.getD i undef) fun i => henv i⟩
  · simp at h
theorem getD_set {env : List AV} {d t : Nat} {v : AV} : (env.set d v).getD t .undef = v ∧ d = t ∧ d < env.length ∨ (env.set d v).getD t .undef = env.getD t .undef ∨ (env.set d v).getD t .undef = .undef := by
  rw [List.getD_eq_getElem?_getD, List.getElem?_set, List.getD_eq_getElem?_getD]
  by_cases hd : d = t
  · subst hd
    by_cases hl : d < env.length
    · left; simp [hl]
    · right; right; simp [hl]
  · right; left; rw [if_neg hd]
theorem RepPtr.far {h i off : Nat} {v : Value} (hf : β' h = β h ∧ H'[h]? = H[h]?) (r : RepPtr β H h i off v) : RepPtr β' H' h i off v := by
  unfold RepPtr at r ⊢
  rw [hf.2, hf.1]
  exact r
theorem RepP.far {q : PV} {v : Value} (hf : ∀ k ∈ hsP q, β' k = β k ∧ H'[k]? = H[k]?) (r : RepP F w β H q v) : RepP F w β' H' q v := by
  cases q with
  | ptr h i off => exact RepPtr.far (hf h (by simp [hsP])) r
  | _ => exact r
theorem RepPs.far : ∀ {l : List PV} {us : List Value}, (∀ k ∈ l.flatMap hsP, β' k = β k ∧ H'[k]? = H[k]?) → All2 (RepP F w β H) l us → All2 (RepP F w β' H') l us
  | _, _, _, .nil => .nil
  | _, _, hf, .cons r t => .cons (r.far fun k hk => hf k (by simp [hk])) (RepPs.far (fun k hk => hf k (by simp at hk ⊢; exact .inr hk)) t)
theorem RepV.far {c : CV} {v : Value} (hf : ∀ k ∈ hsC c, β' k = β k ∧ H'[k]? = H[k]?) (r : RepV F w β H c v) : RepV F w β' H' c v := by
  cases c with
  | ref h =>
    have := hf h (by simp [hsC])
    simp only [RepV] at r ⊢
    rw [this.2, this.1]
    exact r
  | sub h o l =>
    have := hf h (by simp [hsC])
    simp only [RepV] at r ⊢
    rw [this.2, this.1]
    exact r
  | ptr h i off => exact RepPtr.far (hf h (by simp [hsC])) r
  | fn f x y =>
    obtain ⟨va, vb, h, ha, hb⟩ := r
    exact ⟨va, vb, h, RepPs.far (fun k hk => hf k (by simp [hsC] at hk ⊢; exact .inl hk)) ha, RepPs.far (fun k hk => hf k (by simp [hsC] at hk ⊢; exact .inr hk)) hb⟩
  | _ => exact r
theorem RepVs.far : ∀ {l : List CV} {us : List Value}, (∀ k ∈ l.flatMap hsC, β' k = β k ∧ H'[k]? = H[k]?) → All2 (RepV F w β H) l us → All2 (RepV F w β' H') l us
  | _, _, _, .nil => .nil
  | _, _, hf, .cons r t => .cons (r.far fun k hk => hf k (by simp [hk])) (RepVs.far (fun k hk => hf k (by simp at hk ⊢; exact .inr hk)) t)
theorem RepA.far {c : AV} {v : Value} (hf : ∀ k ∈ hsA c, β' k = β k ∧ H'[k]? = H[k]?) (r : RepA F w β H c v) : RepA F w β' H' c v := by
  cases c with
  | undef => trivial
  | one c => exact RepV.far hf r
  | agg cs =>
    obtain ⟨vs, h, h2⟩ := r
    exact ⟨vs, h, RepVs.far hf h2⟩
  | tup us =>
    obtain ⟨vs, h, h2⟩ := r
    refine ⟨vs, h, ?_⟩
    have key : ∀ {us : List (Bool × List CV)} {ws : List Value}, (∀ k ∈ us.flatMap (fun p => p.2.flatMap hsC), β' k = β k ∧ H'[k]? = H[k]?) → All2 (fun u v => match u with
      | (true, cs) => ∃ ws, v = .agg ws ∧ All2 (RepV F w β H) cs ws.toList
      | (false, cs) => ∃ c, cs = [c] ∧ RepV F w β H c v) us ws → All2 (fun u v => match u with
      | (true, cs) => ∃ ws, v = .agg ws ∧ All2 (RepV F w β' H') cs ws.toList
      | (false, cs) => ∃ c, cs = [c] ∧ RepV F w β' H' c v) us ws := by
      intro us ws hf h
      induction h with
      | nil => exact .nil
      | @cons u v l m r t ih =>
        refine .cons ?_ (ih fun k hk => hf k (by simp at hk ⊢; exact .inr hk))
        rcases u with ⟨b, cs⟩
        cases b with
        | true =>
          obtain ⟨ws, e, r⟩ := r
          exact ⟨ws, e, RepVs.far (fun k hk => hf k (by simp at hk ⊢; exact .inl hk)) r⟩
        | false =>
          obtain ⟨c, e, r⟩ := r
          subst e
          exact ⟨c, rfl, RepV.far (fun k hk => hf k (by simp [hk])) r⟩
    exact key hf h2
theorem reown_ok {t : Nat} (h : reown t st = some st') (hs : Sim L w0 F0 X st a w) : Sim L w0 F0 X st' a w := by
  have hs0 := hs
  obtain ⟨F, β, gd, hd, hsz, henv⟩ := hs
  unfold reown at h
  split at h
  case h_3 => simp at h
  case h_2 => injection h with h; subst h; exact hs0
  rename_i hh o' l he
  split at h
  case h_2 => simp at h
  rename_i e T xs hr
  split at h
  case h_2 => simp at h
  rename_i hc
  injection h with h
  subst h
  simp only [Bool.and_eq_true, Bool.not_eq_true', List.all_eq_true] at hc
  obtain ⟨hmp, hno, hroots⟩ := hc
  have hH := slotAt_row hr (by simp)
  have hhl := (List.getElem?_eq_some_iff.1 hH).1
  have rt := henv t
  rw [he] at rt
  simp only [RepA, RepV, hH] at rt
  obtain ⟨⟨_, hle⟩, A, c, hv, hlc, hin, hcap⟩ := rt
  have hcap := hcap trivial
  have hlen : ((xs.drop o').take l).length = l := by rw [List.length_take, List.length_drop]; omega
  have own : SlotOk (Bs L w0) F w β st.heap (.row true e T ((xs.drop o').take l)) (a.tmps.getD t undef) ∧ ∀ g, blk (a.tmps.getD t undef) = some g → ∃ u0, β hh = some u0 ∧ blk u0 = some g := by
    rcases hcap with ⟨h0, hA, hc0⟩ | ⟨g, p, q, n, k, hb, hA, hq, hck⟩
    · subst h0 hA hc0
      rw [hv]
      exact ⟨⟨⟨[], (owns_sl hmp).2 ⟨by simp, .inl ⟨rfl, by simp⟩⟩, by simp, fun i x h => by simp at h⟩, fun g h => by simp [blk] at h⟩, fun g h => by simp [blk] at h⟩
    · obtain ⟨⟨cells, ho, hrow⟩, hB⟩ := gd.slot hb hH
      rw [owns_sl hmp] at ho
      obtain ⟨hcl, ⟨e0, _⟩ | ⟨g', o2, cap, cur, e0, hcur, hncap, hmax, hfit, htake⟩⟩ := ho
      · simp at e0
      simp at e0
      obtain ⟨⟨rfl, rfl⟩, rfl, rfl⟩ := e0
      rw [hv, hA]
      refine ⟨⟨⟨(cells.drop (o' * T.size)).take (l * T.size), (owns_sl hmp).2 ⟨by rw [← (hrow.sub o' l).1], .inr ⟨g, q, c, cur, by rw [hlen], hcur, by rw [hlen]; exact hlc, Nat.le_trans hck hmax, by omega, ?_⟩⟩, hrow.sub o' l⟩, fun g2 h => ?_⟩, fun g2 h => ⟨_, hb, by simp [blk] at h ⊢; exact h⟩⟩
      · rw [hlen]
        rcases hin with h0 | ⟨g3, p3, n3, k3, hb3, hA3⟩
        · subst h0; simp
        · rw [hb] at hb3
          simp at hb3
          obtain ⟨⟨rfl, rfl⟩, rfl, rfl⟩ := hb3
          rw [hA] at hA3
          simp at hA3
          rw [← htake, hA3, List.drop_take, List.take_take, List.drop_drop, Nat.min_eq_left]
          rw [← Nat.sub_mul]
          exact Nat.mul_le_mul_right _ (by omega)
      · simp [blk] at h
        subst h
        exact hB g (by simp [blk])
  have hfar : ∀ k, k ≠ hh → (fun k => if k = hh then some (a.tmps.getD t undef) else β k) k = β k ∧ (st.heap.set hh (.row true e T ((xs.drop o').take l)))[k]? = st.heap[k]? := fun k hk => ⟨by simp [hk], set_ne hk⟩
  have hone : (a.tmps.getD t undef).oneCell' = true := by rw [hv]; rfl
  refine ⟨F, fun k => if k = hh then some (a.tmps.getD t undef) else β k, ⟨gd.below, gd.fsz, gd.f0, gd.f1, fun k u hu => ?_, fun k k' s s' u u' g h1 h2 l1 l2 b1 b2 g1 g2 => ?_⟩, ⟨hd.1, ?_⟩, by simp [hsz], fun t' => ?_⟩
  · by_cases hk : k = hh
    · subst hk
      simp only [if_true, Option.some.injEq] at hu
      subst hu
      exact ⟨_, set_at hH, own.1.1, own.1.2⟩
    · simp only [if_neg hk] at hu
      obtain ⟨s, hs1, hs2⟩ := gd.dom k u hu
      refine ⟨s, by rw [set_ne hk]; exact hs1, ?_⟩
      cases s with
      | dead => trivial
      | iter => exact hs2
      | row lv e2 t2 xs2 =>
        cases lv with
        | true => exact ⟨hs2.1, hs2.2⟩
        | false => exact hs2
      | box t2 cs2 =>
        obtain ⟨g, arr, e3, x1, x2, x3, x4, x5⟩ := hs2
        refine ⟨g, arr, e3, x1, x2, x3, ?_, x5⟩
        refine RepVs.far (fun k' hk' => hfar k' fun e => ?_) x4
        subst e
        have := hno _ (List.mem_of_getElem? hs1)
        simp only [noRef, Bool.not_eq_true', List.contains_eq_mem, decide_eq_false_iff_not] at this
        exact this hk'
  · have old : ∀ {k : Nat} {s : Slot} {u : Value}, (st.heap.set hh (.row true e T ((xs.drop o').take l)))[k]? = some s → s.isLive = true → (if k = hh then some (a.tmps.getD t undef) else β k) = some u → blk u = some g → ∃ s0 u0, st.heap[k]? = some s0 ∧ s0.isLive = true ∧ β k = some u0 ∧ blk u0 = some g := fun {k s u} h1 l1 b1 g1 => by
      by_cases hk : k = hh
      · subst hk
        simp only [if_true, Option.some.injEq] at b1
        subst b1
        obtain ⟨u0, x1, x2⟩ := own.2 g g1
        exact ⟨_, u0, hH, rfl, x1, x2⟩
      · rw [set_ne hk] at h1
        simp only [if_neg hk] at b1
        exact ⟨s, u, h1, l1, b1, g1⟩
    obtain ⟨s0, u0, x1, x2, x3, x4⟩ := old h1 l1 b1 g1
    obtain ⟨s1, u1, y1, y2, y3, y4⟩ := old h2 l2 b2 g2
    exact gd.sep k k' s0 s1 u0 u1 g x1 y1 x2 y2 x3 y3 x4 y4
  · refine RepVs.far (fun k hk => hfar k fun e => ?_) hd.2
    subst e
    rw [List.contains_eq_mem, decide_eq_false_iff_not] at hroots
    exact hroots hk
  · have htl : t < st.env.length := by
      unfold envAt at he
      rw [List.getD_eq_getElem?_getD] at he
      cases hx : st.env[t]? with
      | none => rw [hx] at he; simp at he
      | some y => exact (List.getElem?_eq_some_iff.1 hx).1
    simp only [envAt, List.getD_eq_getElem?_getD]
    by_cases ht : t = t'
    · subst ht
      rw [List.getElem?_set_self (by simpa using htl)]
      simp only [Option.getD_some, RepA, RepV, set_at hH]
      exact ⟨by simp, hone⟩
    · rw [List.getElem?_set_ne ht, List.getElem?_map]
      have r := henv t'
      simp only [envAt, List.getD_eq_getElem?_getD] at r
      cases hx : st.env[t']? with
      | none => trivial
      | some y =>
        rw [hx] at r
        simp only [Option.map_some, Option.getD_some, dropH] at r ⊢
        split
        · trivial
        · rename_i hnc
          refine RepA.far (fun k hk => hfar k fun e => ?_) r
          subst e
          exact hnc (by simpa using hk)
theorem frzAt_ok {z : Nat × Nat} (h : frzAt z st = some st') (hs : Sim L w0 F0 X st a w) : Sim L w0 F0 X st' a w := by
  have hs0 := hs
  obtain ⟨F, β, gd, hd, hsz, henv⟩ := hs
  unfold frzAt at h
  split at h
  · exact reown_ok h hs0
  split at h
  · rename_i hh i off he
    split at h
    · rename_i t cs hb
      split at h
      · rename_i c hc
        simp only [Option.bind_eq_some_iff] at h
        obtain ⟨p, h1, h2⟩ := h
        split at h2
        · rename_i t2 cs2 hb2
          injection h2 with h2
          subst h2
          have hH := slotAt_row hb (by simp)
          have hH2 := slotAt_row hb2 (by simp)
          cases hbd : β hh with
          | none =>
            -- the variable can't be there
            have r := henv z.1
            rw [he] at r
            simp only [RepA, RepV, RepPtr, hH] at r
            obtain ⟨_, g, hg, _⟩ := r
            rw [hbd] at hg; simp at hg
          | some u =>
            obtain ⟨g, arr, e, hu, hbase, harr, hall, hnF⟩ := gd.slot hbd hH
            obtain ⟨uc, huc, rc⟩ := hall.get hc
            obtain ⟨F1, g1, k1, r1⟩ := frz1_ok (c' := p.1) (H' := p.2) gd rc h1
            obtain ⟨g', arr', e', hu', hbase', harr', hall', hnF'⟩ := g1.slot hbd hH2
            rw [hu] at hu'
            simp at hu'
            subst hu'
            rw [harr] at harr'
            injection harr' with harr'
            injection harr' with harr' _ _
            subst harr'
            have hall1 := hall.mono fun _ _ => RepV.mono k1
            obtain ⟨g2, k2⟩ := good_write (w' := w) (s' := .box t (cs.set z.2 p.1)) g1 hH2 rfl hbd (by rw [hu]; rfl) trivial (Below.refl _ _) rfl (fun _ _ => rfl) fun kp => ⟨g, arr, e, hu, hbase, harr, by
              have := (hall1.set r1 z.2)
              rw [show arr.toList.set z.2 uc = arr.toList from by
                obtain ⟨x1, x2⟩ := List.getElem?_eq_some_iff.1 huc
                rw [← x2]; exact List.set_getElem_self x1] at this
              exact this.mono fun _ _ => RepV.mono kp, hnF'⟩
            exact ⟨F1, β, g2, ⟨hd.1, hd.2.mono fun _ _ => RepV.mono (k1.trans k2)⟩, hsz, fun t => (henv t).mono (k1.trans k2)⟩
        · simp at h2
      · simp at h
    · simp at h
  · rename_i c hne he
    simp only [Option.map_eq_some_iff] at h
    obtain ⟨p, h1, h2⟩ := h
    subst h2
    have r := henv z.1
    rw [he] at r
    obtain ⟨F1, g1, k1, r1⟩ := frz1_ok (c' := p.1) (H' := p.2) gd r h1
    refine ⟨F1, β, g1, ⟨hd.1, hd.2.mono fun _ _ => RepV.mono k1⟩, by simpa using hsz, fun t => ?_⟩
    simp only [envAt]
    rcases getD_set (env := st.env) (d := z.1) (t := t) (v := .one p.1) with ⟨e, rfl, _⟩ | e | e
    · rw [e]; exact r1
    · rw [e]; exact (henv t).mono k1
    · rw [e]; trivial
  · rename_i cs he
    split at h
    · rename_i c hc
      simp only [Option.map_eq_some_iff] at h
      obtain ⟨p, h1, h2⟩ := h
      subst h2
      have r := henv z.1
      rw [he] at r
      obtain ⟨vs, hv, hall⟩ := r
      obtain ⟨uc, huc, rc⟩ := hall.get hc
      obtain ⟨F1, g1, k1, r1⟩ := frz1_ok (c' := p.1) (H' := p.2) gd rc h1
      refine ⟨F1, β, g1, ⟨hd.1, hd.2.mono fun _ _ => RepV.mono k1⟩, by simpa using hsz, fun t => ?_⟩
      simp only [envAt]
      rcases getD_set (env := st.env) (d := z.1) (t := t) (v := .agg (cs.set z.2 p.1)) with ⟨e, rfl, _⟩ | e | e
      · rw [e]
        refine ⟨vs, hv, ?_⟩
        have := ((hall.mono fun _ _ => RepV.mono k1).set r1 z.2)
        rwa [show vs.toList.set z.2 uc = vs.toList from by
          obtain ⟨x1, x2⟩ := List.getElem?_eq_some_iff.1 huc
          rw [← x2]; exact List.set_getElem_self x1] at this
      · rw [e]; exact (henv t).mono k1
      · rw [e]; trivial
    · simp at h
  · simp at h
theorem frzAll_ok : ∀ {z : List (Nat × Nat)} {st : St}, frzAll z st = some st' → Sim L w0 F0 X st a w → Sim L w0 F0 X st' a w
  | [], st, h, hs => by simp [frzAll] at h; subst h; exact hs
  | z :: r, st, h, hs => by
    simp only [frzAll] at h
    split at h
    · rename_i s h1; exact frzAll_ok h (frzAt_ok h1 hs)
    · simp at h
theorem prep_ok {z : List (Nat × Nat)} {live : List Nat} (h : prep z live st = some st') (hs : Sim L w0 F0 X st a w) : Sim L w0 F0 X st' a w := by
  unfold prep at h
  split at h
  · rename_i s h1; exact norm_ok h (frzAll_ok h1 hs)
  · simp at h
end
end Go.Proofs.Ytanpdkllnmeenaa.Am
namespace Go.Proofs.Ytanpdkllnmeenaa.Am
open Go Go.RowKit
set_option linter.unusedVariables false
set_option linter.unusedSectionVars false
set_option linter.unusedSimpArgs false
section
variable {P : Program} {C : Ctx} {F F' F1 F'' : Nat → Prop} {w w' : World} {β β' β0 : Bd} {H H' H1 G H0 : Heap}
variable {L : Nat → Prop} {X : List Value} {w0 : World} {F0 : Nat → Prop} {n : Nat} {sl : List Slot} {env : List AV} {a : Act} {o : Oper} {v : AV} {base : Nat → Prop} {D : Nat → Prop} {st st' : St}
/-! ### More heap says no less -/
def Sub (H G : Heap) : Prop := ∀ (h : Nat) (s : Slot), H[h]? = some s → s ≠ .dead → G[h]? = some s
theorem Sub.at_ (p : Sub H G) {h : Nat} {s : Slot} (e : slotAt H h = s) (hs : s ≠ .dead) : slotAt G h = s := slotAt_some (p _ _ (slotAt_row e hs) hs)
theorem pure1_sub (p : Sub H G) {c c' : CV} (h : pure1 H c = some c') : pure1 G c = some c' := by
  cases c <;> simp only [pure1] at h ⊢ <;> try exact h
  · split at h
    · rename_i hs; rw [p.at_ hs (by simp)]; exact h
    · simp at h
  · split at h
    · rename_i hs; rw [p.at_ hs (by simp)]; exact h
    · simp at h
theorem mapM_sub {α γ : Type} {f g : α → Option γ} (hf : ∀ x y, f x = some y → g x = some y) : ∀ {l : List α} {m : List γ}, l.mapM f = some m → l.mapM g = some m
  | [], m, h => by simpa using h
  | x :: l, m, h => by
    simp only [List.mapM_cons, Option.bind_eq_bind, Option.bind_eq_some_iff] at h ⊢
    obtain ⟨q, h1, r, h2, h3⟩ := h
    exact ⟨q, hf _ _ h1, r, mapM_sub hf h2, h3⟩
theorem pureP_sub (p : Sub H G) {c c' : PV} (h : pureP H c = some c') : pureP G c = some c' := by
  cases c <;> simp only [pureP] at h ⊢ <;> try exact h
  split at h
  · rename_i hs
    rw [p.at_ hs (by simp)]
    simp only [Option.bind_eq_some_iff] at h ⊢
    obtain ⟨cs', h1, r⟩ := h
    exact ⟨cs', mapM_sub (fun _ _ => pure1_sub p) h1, r⟩
  · simp at h
theorem pureC_sub (p : Sub H G) {c c' : CV} (h : pureC H c = some c') : pureC G c = some c' := by
  cases c with
  | ptr k i off =>
    simp only [pureC] at h ⊢
    split at h
    · rename_i hs
      rw [p.at_ hs (by simp)]
      simp only [Option.bind_eq_some_iff] at h ⊢
      obtain ⟨cs', h1, r⟩ := h
      exact ⟨cs', mapM_sub (fun _ _ => pure1_sub p) h1, r⟩
    · simp at h
  | fn f x y =>
    simp only [pureC, Option.bind_eq_some_iff] at h ⊢
    obtain ⟨a', h1, b', h2, r⟩ := h
    exact ⟨a', mapM_sub (fun _ _ => pureP_sub p) h1, b', mapM_sub (fun _ _ => pureP_sub p) h2, r⟩
  | _ =>
    simp only [pureC] at h ⊢
    exact pure1_sub p h
theorem pureA_sub (p : Sub H G) {c c' : AV} (h : pureA H c = some c') : pureA G c = some c' := by
  cases c <;> simp only [pureA] at h ⊢ <;> try exact h
  · simp only [Option.map_eq_some_iff] at h ⊢
    obtain ⟨q, h1, r⟩ := h
    exact ⟨q, pureC_sub p h1, r⟩
  · simp only [Option.map_eq_some_iff] at h ⊢
    obtain ⟨q, h1, r⟩ := h
    exact ⟨q, mapM_sub (fun _ _ => pure1_sub p) h1, r⟩
theorem mapA_sub {α γ : Type} {f g : α → Option γ} (hf : ∀ x y, f x = some y → g x = some y) : ∀ {l : List α} {m : List γ}, mapA f l = some m → mapA g l = some m
  | [], m, h => h
  | x :: l, m, h => by
    simp only [mapA, Option.bind_eq_some_iff, Option.map_eq_some_iff] at h ⊢
    obtain ⟨q, h1, r, h2, h3⟩ := h
    exact ⟨q, hf _ _ h1, r, mapA_sub hf h2, h3⟩
theorem argsOf_sub (p : Sub H G) {c : Call} {pa pb : List PV} {r : List AV × List Nat} (h : argsOf C env H c pa pb = some r) : argsOf C env G c pa pb = some r := by
  simp only [argsOf, Option.bind_eq_some_iff, Option.map_eq_some_iff] at h ⊢
  obtain ⟨us, h1, a', h2, b', h3, ws, h4, h5⟩ := h
  exact ⟨us, h1, a', h2, b', h3, ws, mapA_sub (fun _ _ => pureA_sub p) h4, h5⟩
/-- Behind a call whose rows have their places. -/
theorem good_callG (gd : Good L w0 w F0 F β G) {r : AV} {v : Value} {n : Nat} (hfree : ∀ j, j < (adoptA r n).2.length → β (n + j) = none) (hnew : ∀ (j : Nat) (s : Slot), (adoptA r n).2[j]? = some s → G[n + j]? = some s)
    (hb : Below w.heap.size w w') (hF : ∀ g, F'' g → w.heap.size ≤ g ∧ g < w'.heap.size) (hr : RepR (Fr w) (fun g => F g ∨ F'' g) w' r v) :
    ∃ β', Good L w0 w' F0 (fun g => F g ∨ F'' g) β' G ∧ Keeps F (fun g => F g ∨ F'' g) w w' β β' G G ∧ RepA (fun g => F g ∨ F'' g) w' β' G (adoptA r n).1 v ∧ (∀ h, β' h ≠ none → β h ≠ none ∨ (n ≤ h ∧ h < n + (adoptA r n).2.length)) := by
  obtain ⟨us, hlen, hdis, hall⟩ := hr
  have esl := adoptA_slots r n 0
  rw [esl] at hfree hnew ⊢
  obtain ⟨hv, hs⟩ := hall n (ext β n us) G hnew fun j u hu => ext_new hu
  have hext : ∀ q u, β q = some u → ext β n us q = some u := fun q u => ext_old (by rw [hlen]; exact hfree)
  have kp : Keeps F (fun g => F g ∨ F'' g) w w' β (ext β n us) G G :=
    ⟨fun _ h => .inl h, fun g hg => hb.block g (gd.fsz g hg), hext, fun q s' hs' => ⟨s', hs', like_refl s'⟩⟩
  have hbase : ∀ {j : Nat} {u : Value} {g : Nat}, us[j]? = some u → blk u = some g → w.heap.size ≤ g := fun {j u g} hu hg => by
    have hj := (List.getElem?_eq_some_iff.1 hu).1
    rw [hlen] at hj
    have e := List.getElem?_eq_getElem hj
    have ok := hs j _ u e hu
    obtain ⟨e', t, xs, hq⟩ := adoptA_rows r 0 _ (List.getElem_mem hj)
    rw [hq] at ok
    exact (ok.lt rfl hg).1
  refine ⟨_, ⟨gd.below.trans hb, fun g hg => hg.elim (fun h => Nat.lt_of_lt_of_le (gd.fsz g h) hb.size) fun h => (hF g h).2, fun g hg hlt => hg.elim (fun h => gd.f0 g h hlt) fun h => ?_, fun g hg => .inl (gd.f1 g hg), fun q u hu => ?_, fun q q' s1 s2 u1 u2 g e1 e2 l1 l2 b1 b2 g1 g2 => ?_⟩, kp, hv, ?_⟩
  · exact absurd (.inl (Nat.le_trans gd.below.size (hF g h).1)) hlt
  · rcases ext_some hu with ⟨j, rfl, hj⟩ | hu'
    · have hj' := (List.getElem?_eq_some_iff.1 hj).1
      rw [hlen] at hj'
      have e := List.getElem?_eq_getElem hj'
      exact ⟨_, hnew _ _ e, slot_base (fr_bs gd) (hs _ _ _ e hj)⟩
    · obtain ⟨s1, e1, e2⟩ := gd.dom q u hu'
      refine ⟨s1, e1, e2.keep kp fun hl' g hg' => ⟨hb.block g (e2.lt hl' hg').2.1, fun hn hor => ?_⟩⟩
      rcases hor with h | h
      · exact hn h
      · have := (hF g h).1
        have := (e2.lt hl' hg').2.1
        omega
  · rcases ext_some b1 with ⟨j, rfl, hj⟩ | b1
    · rcases ext_some b2 with ⟨j', rfl, hj'⟩ | b2
      · rw [hdis j j' u1 u2 g hj hj' g1 g2]
      · have h1 := hbase hj g1
        have h2 := ((gd.slot b2 e2).lt l2 g2).2.1
        omega
    · rcases ext_some b2 with ⟨j', rfl, hj'⟩ | b2
      · have h1 := hbase hj' g2
        have h2 := ((gd.slot b1 e1).lt l1 g1).2.1
        omega
      · exact gd.sep q q' s1 s2 u1 u2 g e1 e2 l1 l2 b1 b2 g1 g2
  · intro h hh
    cases hb' : ext β n us h with
    | none => exact absurd hb' hh
    | some u =>
      rcases ext_some hb' with ⟨j, rfl, hj⟩ | hb'
      · right
        have := (List.getElem?_eq_some_iff.1 hj).1
        omega
      · left; rw [hb']; simp
/-- What a quiet operation yields. -/
def QS (P : Program) (C : Ctx) (o : Oper) (env : List AV) (H : Heap) (v : AV) (sl : List Slot) : Prop :=
  opQ C env H H.length o = some (true, v, sl) ∨
  (∃ c x y t, o.op = .pick c x y ∧ oprC env c = some (.bool t) ∧ opr env (if t then x else y) = some v ∧ sl = []) ∨
  (∃ c f g pa pb vs hs r, o.op = .call c ∧ c.callee = .value f ∧ callee env f = some (g, pa, pb) ∧ argsOf C env H c pa pb = some (vs, hs) ∧ CallOK P g ⟨vs, [], []⟩ r ∧ (aliasA r = true → hs = []) ∧ v = (adoptA r H.length).1 ∧ sl = (adoptA r H.length).2)
theorem qs_ok (hq : QS P C o env H v sl) (cx : CtxOk P C) (gd : Good L w0 w F0 F β G) (hpre : Sub H G) (hfree : ∀ j, j < sl.length → β (H.length + j) = none) (hnew : ∀ (j : Nat) (s : Slot), sl[j]? = some s → G[H.length + j]? = some s)
    (hE : ∀ x ∈ o.op.operands, OpOk F w β G env a x) : ∀ (next : Act → World → Prop) (Q : Exit → Act → World → Prop), (∀ v' w' F' β', Good L w0 w' F0 F' β' G → Keeps F F' w w' β β' G G → RepA F' w' β' G v v' → (∀ h, β' h ≠ none → β h ≠ none ∨ (H.length ≤ h ∧ h < H.length + sl.length)) → next (a.put o.dst v') w') → o.wp P a w next Q := by
  intro next Q hn
  rcases hq with hq | ⟨c, x, y, t, ho, h1, h2, rfl⟩ | ⟨c, f, g, pa, pb, vs, hs, r, ho, hcal, h1, h2, hok, hal, rfl, rfl⟩
  · have pre : Pre L w0 w F0 F β H G H.length sl := ⟨gd, hpre, hnew⟩
    have q := opQ_ok pre hE cx hq
    obtain ⟨v', w', β', hr, g2, k2, r, _, hd⟩ := good_quiet pre hfree q
    unfold Oper.wp
    rw [hr]
    exact hn v' w' F β' g2 k2 r hd
  · have hcv : a.eval c = .bool t := (hE c (by rw [ho]; simp [Op.operands])).cell h1
    have r := hE _ (by rw [ho]; cases t <;> simp [Op.operands]) _ h2
    have : (execOp a.eval o).run P w = .ok (.value (a.eval (if t then x else y))) w := by
      simp only [execOp, ho, hcv, asBool]
      cases t <;> simp
    unfold Oper.wp
    rw [this]
    exact hn _ w F β gd ⟨fun _ h => h, fun _ _ => rfl, fun _ _ h => h, fun h s hs => ⟨s, hs, like_refl s⟩⟩ r fun h hh => .inl hh
  · have hfo : OpOk F w β G env a f := hE f (by rw [ho]; simp [Op.operands, Call.operands, hcal])
    have hfv : ∃ va vb, a.eval f = .func (.func g) va vb ∧ All2 (RepP F w β G) pa va.toList ∧ All2 (RepP F w β G) pb vb.toList := by
      simp only [callee, Option.bind_eq_some_iff] at h1
      obtain ⟨c, h1, h2⟩ := h1
      have r := hfo.cell h1
      split at h2
      · simp at h2
        obtain ⟨rfl, rfl, rfl⟩ := h2
        exact r
      · simp at h2
    obtain ⟨va, vb, hfv, ra, rb⟩ := hfv
    have hargs := argsOf_ok gd (fun x hx => hE x (by rw [ho]; simp only [Op.operands, Call.operands, hcal]; exact Array.mem_append.2 (.inr hx))) ra rb (argsOf_sub hpre h2)
    have hex : (execOp a.eval o).run P w = (callFunc g (va ++ c.args.map a.eval ++ vb)).run P w := by
      simp [execOp, ho, resolve, hcal, hfv, Deferred.ofValue, invoke]
    have hfb : ∀ b, FB F β G (Dp G hs) b → b < w.heap.size := by
      rintro b (h | ⟨h, u, s, _, hs', hl, hb, hg⟩)
      · exact gd.fsz b h
      · exact ((gd.slot hb hs').lt hl hg).2.1
    have fin : ∀ {v' : Value} {w' : World} {F'' : Nat → Prop}, CRes w (FB F β G (Dp G hs)) r v' w' F'' → ∃ F' β', Good L w0 w' F0 F' β' G ∧ Keeps F F' w w' β β' G G ∧ RepA F' w' β' G (adoptA r H.length).1 v' ∧ (∀ h, β' h ≠ none → β h ≠ none ∨ (H.length ≤ h ∧ h < H.length + (adoptA r H.length).2.length)) := fun {v' w' F''} hres => by
      have hr : RepR (Fr w) (fun g => F g ∨ (w.heap.size ≤ g ∧ F'' g)) w' r v' := by
        have hneg : ∀ g, w.heap.size ≤ g → ¬ F'' g → ¬ (F g ∨ (w.heap.size ≤ g ∧ F'' g)) := fun g hg hn => by
          rintro (h | h)
          · have := gd.fsz g h; omega
          · exact hn h.2
        cases ha : aliasA r with
        | false => exact RepR.flat ha hres.rep hneg
        | true =>
          refine RepR.to hres.rep (fun g hg => ?_) hneg
          by_cases hlt : g < w.heap.size
          · left
            rcases hres.f0 g hg hlt with h | ⟨h, u, s, hd, _⟩
            · exact h
            · have he := hal ha
              subst he
              exact absurd (dp_rows (H := G) (hs := []) (fun h hh => by simp at hh) hd) (by simp)
          · exact .inr ⟨by omega, hg⟩
      obtain ⟨β', g2, k2, r2, d2⟩ := good_callG gd hfree hnew hres.below (F'' := fun g => w.heap.size ≤ g ∧ F'' g) (fun g hg => ⟨hg.1, hres.fsz g hg.2⟩) hr
      exact ⟨_, β', g2, k2, r2, d2⟩
    unfold Oper.wp
    rw [hex]
    rcases hok.to0 w _ _ hfb hargs with ⟨he, hcalls⟩ | ⟨v', w', F'', he, hres⟩
    · rw [he]
      refine hcalls.mono ?_
      rintro e w' ⟨v', F'', rfl, hres⟩
      obtain ⟨F', β', g2, k2, r2, d2⟩ := fin hres
      exact hn v' w' F' β' g2 k2 r2 d2
    · rw [he]
      obtain ⟨F', β', g2, k2, r2, d2⟩ := fin hres
      exact hn v' w' F' β' g2 k2 r2 d2
end
end Go.Proofs.Ytanpdkllnmeenaa.Am
namespace Go.Proofs.Ytanpdkllnmeenaa.Am
open Go Go.RowKit
set_option linter.unusedVariables false
set_option linter.unusedSectionVars false
set_option linter.unusedSimpArgs false
section
variable {P : Program} {C : Ctx} {F F' F1 F'' : Nat → Prop} {w w' : World} {β β' β0 : Bd} {H H' H1 G H0 : Heap}
variable {L : Nat → Prop} {X : List Value} {w0 : World} {F0 : Nat → Prop} {n : Nat} {sl : List Slot} {env : List AV} {a : Act} {o : Oper} {v : AV} {base : Nat → Prop} {D : Nat → Prop} {st st' : St}
theorem set_same {env : List AV} {d : Nat} {x : AV} (h : envAt env d = x) (hx : x ≠ .undef) : env.set d x = env := by
  unfold envAt at h
  rw [List.getD_eq_getElem?_getD] at h
  cases hd : env[d]? with
  | none => rw [hd] at h; simp at h; exact absurd h.symm hx
  | some y =>
    rw [hd] at h
    simp at h
    subst h
    obtain ⟨h1, h2⟩ := List.getElem?_eq_some_iff.1 hd
    rw [← h2]
    exact List.set_getElem_self h1
/-- An operation behind its guard. -/
def QG (P : Program) (C : Ctx) (ops : Array Oper) (o : Oper) (env : List AV) (H : Heap) (v : AV) (sl : List Slot) : Prop :=
  (o.guard = none ∧ QS P C o env H v sl) ∨ (∃ j want d b, o.guard = some (j, want) ∧ (ops[j]?).bind (·.dst) = some d ∧ envAt env d = .one (.bool b) ∧ ((b = want ∧ QS P C o env H v sl) ∨ (b ≠ want ∧ v = .tup [] ∧ sl = []))) ∨ (∃ j want d, o.guard = some (j, want) ∧ (ops[j]?).bind (·.dst) = some d ∧ envAt env d = .tup [] ∧ v = .tup [] ∧ sl = [])
/-- One that may come late. -/
def QL (C : Ctx) (o : Oper) (env : List AV) (v : AV) (sl : List Slot) : Prop := o.guard = none ∧ opQ C env [] 0 o = some (true, v, []) ∧ sl = []
structure QT (P : Program) (C : Ctx) (ops : Array Oper) (l : List Oper) (env : List AV) (H : Heap) (q : Nat) (lt : List Bool) (V : Nat → AV) (S : Nat → List Slot) (E : Nat → List AV) (HH : Nat → Heap) : Prop where
  e0 : E 0 = env
  h0 : HH 0 = H
  step : ∀ i o, i < q → l[i]? = some o → E (i + 1) = put (E i) o.dst (V i) ∧ HH (i + 1) = HH i ++ S i ∧ ((lt.getD i false = false ∧ QG P C ops o (E i) (HH i) (V i) (S i)) ∨ (lt.getD i false = true ∧ QL C o (E i) (V i) (S i)))
theorem doK_quiet {R : Type} {call : CallK R} {K : AV → Heap → Option R} {out : R} (hc : CallS P call) (h : doK C call true o env H K = some out) : ∃ v sl, QS P C o env H v sl ∧ K v (H ++ sl) = some out := by
  have gen : (match opQ C env H H.length o with
      | some (b, v, sl) => match b with | true => K v (H ++ sl) | false => none
      | none => if true then none else match opE C env H o with
        | some (b, v, H') => match b with | true => K v H' | false => none
        | none => none) = some out → ∃ v sl, QS P C o env H v sl ∧ K v (H ++ sl) = some out := fun h => by
    split at h
    · rename_i b v sl hq
      cases b with
      | false => simp at h
      | true => exact ⟨v, sl, .inl hq, h⟩
    · simp at h
  unfold doK at h
  split at h
  · rename_i c x y ho
    split at h
    · rename_i t h1
      cases t with
      | true =>
        simp only [] at h
        split at h
        · rename_i v hv; exact ⟨v, [], .inr (.inl ⟨c, x, y, true, ho, h1, by simpa using hv, rfl⟩), by simpa using h⟩
        · simp at h
      | false =>
        simp only [] at h
        split at h
        · rename_i v hv; exact ⟨v, [], .inr (.inl ⟨c, x, y, false, ho, h1, by simpa using hv, rfl⟩), by simpa using h⟩
        · simp at h
    · simp at h
  · rename_i x s ho
    split at h
    · rename_i e1 e2; cases e2
    · simp at h
  · rename_i op t x y r ho
    split at h
    · rename_i e1 e2 e3; simp at e2
    · exact gen h
  · rename_i c ho
    split at h
    · rename_i f hcal
      split at h
      · simp at h
      · rename_i g pa pb h1
        split at h
        · simp at h
        · split at h
          · simp at h
          · rename_i vs hs h2
            obtain ⟨r, h3, hok⟩ := hc _ _ _ _ h
            split at h3
            · simp at h3
            · rename_i H1 h4
              have key : H1 = H ∧ (aliasA r = true → hs = []) := by
                revert h4
                cases aliasA r with
                | false => simp; exact fun h => h.symm
                | true =>
                  simp only []
                  intro h4
                  split at h4
                  · simp at h4
                  · rename_i he
                    have hs0 : hs = [] := by simpa using he
                    subst hs0
                    simp [freeze] at h4
                    exact ⟨h4.symm, fun _ => rfl⟩
              obtain ⟨rfl, hal⟩ := key
              exact ⟨_, _, .inr (.inr ⟨c, f, g, pa, pb, vs, hs, r, ho, hcal, h1, h2, hok, hal, rfl, rfl⟩), h3⟩
        · simp at h
    · exact gen h
  · exact gen h
theorem trace {R : Type} {call : CallK R} {ops : Array Oper} (hc : CallS P call) (rts : List CV) : ∀ (l : List Oper) (q : Nat) (lt : List Bool) (env : List AV) (H : Heap) (K : St → Option R) (out : R), opsK C call ops q lt l ⟨env, H, rts⟩ K = some out → q ≤ l.length →
    ∃ V S E HH, QT P C ops l env H q lt V S E HH ∧ opsK C call ops 0 (lt.drop q) (l.drop q) ⟨E q, HH q, rts⟩ K = some out
  | l, 0, lt, env, H, K, out, h, _ => ⟨fun _ => .undef, fun _ => [], fun _ => env, fun _ => H, ⟨rfl, rfl, fun i o hi => by omega⟩, by simpa using h⟩
  | [], q + 1, lt, env, H, K, out, h, hq => by simp at hq
  | o :: rest, q + 1, lt, env, H, K, out, h, hq => by
    have fin : ∀ {v : AV} {sl : List Slot}, ((lt.headD false = false ∧ QG P C ops o env H v sl) ∨ (lt.headD false = true ∧ QL C o env v sl)) → opsK C call ops q lt.tail rest ⟨put env o.dst v, H ++ sl, rts⟩ K = some out → ∃ V S E HH, QT P C ops (o :: rest) env H (q + 1) lt V S E HH ∧ opsK C call ops 0 (lt.drop (q + 1)) ((o :: rest).drop (q + 1)) ⟨E (q + 1), HH (q + 1), rts⟩ K = some out := fun {v sl} hg hk => by
      obtain ⟨V, S, E, HH, t, k⟩ := trace hc rts rest q _ _ _ K out hk (by simpa using hq)
      refine ⟨fun i => match i with | 0 => v | i + 1 => V i, fun i => match i with | 0 => sl | i + 1 => S i, fun i => match i with | 0 => env | i + 1 => E i, fun i => match i with | 0 => H | i + 1 => HH i, ⟨rfl, rfl, fun i o' hi ho => ?_⟩, ?_⟩
      · cases i with
        | zero =>
          simp at ho
          subst ho
          refine ⟨t.e0, t.h0, ?_⟩
          have : lt.getD 0 false = lt.headD false := by cases lt <;> rfl
          rw [this]
          exact hg
        | succ i =>
          have := t.step i o' (by omega) (by simpa using ho)
          have e : lt.getD (i + 1) false = lt.tail.getD i false := by cases lt <;> simp
          rw [e]
          exact this
      · have e : lt.drop (q + 1) = lt.tail.drop q := by cases lt <;> simp
        rw [e]
        simpa using k
    simp only [opsK, Nat.zero_lt_succ, decide_true, Nat.add_one_sub_one] at h
    cases hlt : lt.headD false with
    | true =>
      simp only [hlt] at h
      split at h
      case h_2 => simp at h
      rename_i hg
      split at h
      case h_2 => simp at h
      rename_i b v hq'
      cases b with
      | false => simp at h
      | true => exact fin (sl := []) (.inr ⟨hlt, hg, hq', rfl⟩) (by simpa using h)
    | false =>
    simp only [hlt] at h
    have fin := fun {v : AV} {sl : List Slot} (hg : QG P C ops o env H v sl) => fin (.inl ⟨hlt, hg⟩)
    split at h
    · rename_i hg
      obtain ⟨v, sl, h1, h2⟩ := doK_quiet hc h
      exact fin (.inl ⟨hg, h1⟩) h2
    · rename_i j want hg
      split at h
      · simp at h
      · rename_i d hdst
        split at h
        case h_3 => simp at h
        case h_2 =>
          rename_i hb
          exact fin (sl := []) (.inr (.inr ⟨j, want, d, hg, hdst, hb, rfl, rfl⟩)) (by simpa using h)
        rename_i b hb
        have hset : env.set d (.one (.bool b)) = env := set_same hb (by simp)
        cases b with
        | true =>
          rw [hset] at h
          cases want with
          | true =>
            obtain ⟨v, sl, h1, h2⟩ := doK_quiet hc h
            exact fin (.inr (.inl ⟨j, true, d, true, hg, hdst, hb, .inl ⟨rfl, h1⟩⟩)) h2
          | false => exact fin (sl := []) (.inr (.inl ⟨j, false, d, true, hg, hdst, hb, .inr ⟨by simp, rfl, rfl⟩⟩)) (by simpa using h)
        | false =>
          rw [hset] at h
          cases want with
          | true => exact fin (sl := []) (.inr (.inl ⟨j, true, d, false, hg, hdst, hb, .inr ⟨by simp, rfl, rfl⟩⟩)) (by simpa using h)
          | false =>
            obtain ⟨v, sl, h1, h2⟩ := doK_quiet hc h
            exact fin (.inr (.inl ⟨j, false, d, false, hg, hdst, hb, .inl ⟨rfl, h1⟩⟩)) h2
/-! ### What comes ahead -/
theorem mask_bit (acc : List Nat) (j : Nat) : ∀ es : List Nat, (mask acc es).testBit j = true ↔ ∃ e ∈ es, j = e ∨ (acc.getD e 0).testBit j = true
  | [] => by simp [mask]
  | e :: r => by
    rw [mask, Nat.testBit_or, Nat.testBit_or, Bool.or_eq_true, Bool.or_eq_true, mask_bit acc j r, Nat.testBit_two_pow]
    simp only [decide_eq_true_eq, List.mem_cons, exists_eq_or_imp]
    constructor
    · rintro ((h | h) | h)
      · exact .inl (.inl h.symm)
      · exact .inl (.inr h)
      · exact .inr h
    · rintro ((h | h) | h)
      · exact .inl (.inl h.symm)
      · exact .inl (.inr h)
      · exact .inr h
theorem clos_pre : ∀ (l : List Oper) (acc : List Nat), ∃ r, clos l acc = acc ++ r ∧ r.length = l.length
  | [], acc => ⟨[], by simp [clos], rfl⟩
  | o :: l, acc => by
    obtain ⟨r, h, hl⟩ := clos_pre l (acc ++ [mask acc (edges o)])
    exact ⟨mask acc (edges o) :: r, by rw [clos, h]; simp, by simp [hl]⟩
theorem clos_at : ∀ (l : List Oper) (acc : List Nat) (i : Nat) (o : Oper), l[i]? = some o → (clos l acc)[acc.length + i]? = some (mask ((clos l acc).take (acc.length + i)) (edges o))
  | [], acc, i, o, h => by simp at h
  | o' :: l, acc, 0, o, h => by
    simp at h
    subst h
    obtain ⟨r, h, _⟩ := clos_pre l (acc ++ [mask acc (edges o')])
    rw [clos, h]
    simp
  | o' :: l, acc, i + 1, o, h => by
    have := clos_at l (acc ++ [mask acc (edges o')]) i o (by simpa using h)
    rw [clos]
    simp only [List.length_append, List.length_cons, List.length_nil, Nat.zero_add] at this
    rwa [show acc.length + (i + 1) = acc.length + 1 + i by omega]
theorem clos_getD {l : List Oper} {i : Nat} {o : Oper} (h : l[i]? = some o) : (clos l []).getD i 0 = mask ((clos l []).take i) (edges o) := by
  have := clos_at l [] i o h
  simp at this
  rw [List.getD_eq_getElem?_getD, this]; rfl
theorem take_getD {l : List Nat} {i e : Nat} (h : e < i) : (l.take i).getD e 0 = l.getD e 0 := by
  rw [List.getD_eq_getElem?_getD, List.getD_eq_getElem?_getD, List.getElem?_take_of_lt h]
section closed
variable {l : List Oper} (hlt : ∀ i o, l[i]? = some o → ∀ j ∈ edges o, j < i)
include hlt
theorem bit_lt : ∀ i o, l[i]? = some o → ∀ j, ((clos l []).getD i 0).testBit j = true → j < i := by
  intro i
  induction i using Nat.strongRecOn with
  | _ i ih =>
    intro o ho j hj
    rw [clos_getD ho, mask_bit] at hj
    obtain ⟨e, he, hj⟩ := hj
    have hei := hlt i o ho e he
    rcases hj with rfl | hj
    · exact hei
    · rw [take_getD hei] at hj
      cases ho' : l[e]? with
      | none =>
        have h1 := (List.getElem?_eq_some_iff.1 ho).1
        have h2 := List.getElem?_eq_none_iff.1 ho'
        omega
      | some o' => exact Nat.lt_trans (ih e hei o' ho' j hj) hei
theorem bit_mem {L : Nat → Prop} (hdc : ∀ i o, l[i]? = some o → L i → ∀ j ∈ edges o, L j) : ∀ i o, l[i]? = some o → (∀ j ∈ edges o, L j) → ∀ j, ((clos l []).getD i 0).testBit j = true → L j := by
  intro i
  induction i using Nat.strongRecOn with
  | _ i ih =>
    intro o ho hL j hj
    rw [clos_getD ho, mask_bit] at hj
    obtain ⟨e, he, hj⟩ := hj
    have hei := hlt i o ho e he
    rcases hj with rfl | hj
    · exact hL _ he
    · rw [take_getD hei] at hj
      cases ho' : l[e]? with
      | none =>
        have h1 := (List.getElem?_eq_some_iff.1 ho).1
        have h2 := List.getElem?_eq_none_iff.1 ho'
        omega
      | some o' => exact ih e hei o' ho' (hdc e o' ho' (hL e he)) j hj
end closed
end
end Go.Proofs.Ytanpdkllnmeenaa.Am
namespace Go.Proofs.Ytanpdkllnmeenaa.Am
open Go Go.RowKit
set_option linter.unusedVariables false
set_option linter.unusedSectionVars false
set_option linter.unusedSimpArgs false
section
variable {P : Program} {C : Ctx} {F F' F1 F'' : Nat → Prop} {w w' : World} {β β' β0 : Bd} {H H' H1 G H0 : Heap}
variable {L : Nat → Prop} {X : List Value} {w0 : World} {F0 : Nat → Prop} {n : Nat} {sl : List Slot} {env : List AV} {a : Act} {o : Oper} {v : AV} {base : Nat → Prop} {D : Nat → Prop} {st st' : St}
/-- What 'drawAt' says. -/
structure DrawOk (ops : Array Oper) (len q : Nat) (late : List Bool) : Prop where
  le : q ≤ ops.size
  lt : ∀ (i : Nat) (o : Oper), ops.toList[i]? = some o → ∀ j ∈ edges o, j < i
  dst : ∀ (i : Nat) (o : Oper) (t : Nat), ops.toList[i]? = some o → o.dst = some t → t < len
  tail : ∀ (i : Nat) (o : Oper), ops.toList[i]? = some o → q ≤ i → ∀ j, j < i → ((clos ops.toList []).getD i 0).testBit j = true ∨ late.getD j false = true
  one : ∀ (i j : Nat) (oi oj : Oper) (t : Nat), i < q → j < q → i ≠ j → ops.toList[i]? = some oi → ops.toList[j]? = some oj → oj.dst = some t → oi.dst ≠ some t
  look : ∀ (i j : Nat) (oi oj : Oper) (t : Nat), i < q → j < q → i ≠ j → ops.toList[i]? = some oi → ops.toList[j]? = some oj → oj.dst = some t → t ∈ oi.looksAt ops → ((clos ops.toList []).getD i 0).testBit j = true ∨ ((clos ops.toList []).getD j 0).testBit i = true
  len_ : late.length = q
  late : ∀ (j : Nat) (o : Oper), late.getD j false = true → ops.toList[j]? = some o → o.guard = none ∧ ∃ t, o.dst = some t ∧
    ¬ t ∈ o.looksAt ops ∧ (∀ (i : Nat) (oi : Oper) (u : Nat), i < q → i ≠ j → ops.toList[i]? = some oi → oi.dst = some u → u ∈ o.looksAt ops → ((clos ops.toList []).getD j 0).testBit i = true) ∧
    (∀ (i : Nat) (oi : Oper), q ≤ i → ops.toList[i]? = some oi → oi.dst ≠ some t ∧ (t ∈ oi.looksAt ops → ((clos ops.toList []).getD i 0).testBit j = true) ∧ ∀ u, oi.dst = some u → ¬ u ∈ o.looksAt ops)
theorem zip_mem {α : Type} {l : List α} {i : Nat} {x : α} (h : l[i]? = some x) : (x, i) ∈ l.zipIdx := by
  rw [List.mem_zipIdx_iff_getElem?]; exact h
theorem tailAt_le (cl : List Nat) : ∀ n, tailAt cl n ≤ n
  | 0 => Nat.le_refl _
  | n + 1 => by
    rw [tailAt]
    split
    · exact Nat.le_succ_of_le (tailAt_le cl n)
    · exact Nat.le_refl _
theorem late_lt {l : List Bool} {j : Nat} (h : l.getD j false = true) : j < l.length := by
  rw [List.getD_eq_getElem?_getD] at h
  cases hx : l[j]? with
  | none => rw [hx] at h; simp at h
  | some y => exact (List.getElem?_eq_some_iff.1 hx).1
theorem drawAt_ok {ops : Array Oper} {len q : Nat} {late : List Bool} (h : drawAt ops len = some (q, late)) : DrawOk ops len q late := by
  unfold drawAt at h
  simp only [] at h
  split at h
  case isFalse => simp at h
  rename_i hc
  injection h with h
  injection h with hq hl
  rw [hq] at hl
  rw [hq, hl] at hc
  rw [Bool.and_eq_true, Bool.and_eq_true] at hc
  obtain ⟨h1, h2, h3⟩ := hc
  have hll : late.length = q := by rw [← hl]; simp [lates]
  have hle : q ≤ ops.size := by rw [← hq]; exact Nat.le_trans (Nat.min_le_left _ _) (tailAt_le _ _)
  have a1 : ∀ i o, ops.toList[i]? = some o → _ := fun i o ho => List.all_eq_true.1 h1 _ (zip_mem ho)
  simp only [Bool.and_eq_true, List.all_eq_true, decide_eq_true_eq, Bool.or_eq_true, beq_iff_eq, List.mem_range] at a1
  have key : ∀ i j oi oj, i < q → j < q → i ≠ j → ops.toList[i]? = some oi → ops.toList[j]? = some oj → (match oj.dst with | none => true | some t => oi.dst != some t && (!(oi.looksAt ops).contains t || (((clos ops.toList []).getD i 0).testBit j || ((clos ops.toList []).getD j 0).testBit i))) = true := by
    intro i j oi oj hi hj hne hoi hoj
    have e1 : (ops.toList.take q)[i]? = some oi := by rw [List.getElem?_take_of_lt hi]; exact hoi
    have e2 : (ops.toList.take q)[j]? = some oj := by rw [List.getElem?_take_of_lt hj]; exact hoj
    have b1 := List.all_eq_true.1 h2 _ (zip_mem e1)
    unfold quietOk at b1
    have b2 := List.all_eq_true.1 b1 _ (zip_mem e2)
    simp only [Bool.or_eq_true, beq_iff_eq] at b2
    rcases b2 with b2 | b2
    · exact absurd b2.symm hne
    · exact b2
  refine ⟨hle, fun i o ho j hj => (a1 i o ho).1 j hj, fun i o t ho hd => ?_, fun i o ho hqi j hj => ?_, fun i j oi oj t hi hj hne hoi hoj hd => ?_, fun i j oi oj t hi hj hne hoi hoj hd ht => ?_, hll, fun j o hlj ho => ?_⟩
  · have := (a1 i o ho).2.1
    rw [hd] at this
    simpa using this
  · rcases (a1 i o ho).2.2 with h | h
    · omega
    · exact h j hj
  · have := key i j oi oj hi hj hne hoi hoj
    rw [hd] at this
    simp only [Bool.and_eq_true, bne_iff_ne, ne_eq] at this
    exact this.1
  · have := key i j oi oj hi hj hne hoi hoj
    rw [hd] at this
    simp only [Bool.and_eq_true, Bool.or_eq_true] at this
    rcases this.2 with h | h
    · simp at h; exact absurd ht h
    · exact h
  · have hjq : j < q := by rw [← hll]; exact late_lt hlj
    have e2 : (ops.toList.take q)[j]? = some o := by rw [List.getElem?_take_of_lt hjq]; exact ho
    have b1 := List.all_eq_true.1 h3 _ (zip_mem e2)
    simp only [hlj, Bool.not_true, Bool.false_or] at b1
    unfold lateOk at b1
    simp only [Bool.and_eq_true, Option.isNone_iff_eq_none] at b1
    obtain ⟨b1, b2⟩ := b1
    refine ⟨b1, ?_⟩
    cases hd : o.dst with
    | none => rw [hd] at b2; simp at b2
    | some t =>
      rw [hd] at b2
      simp only [Bool.and_eq_true, List.all_eq_true] at b2
      obtain ⟨b0, b2⟩ := b2
      refine ⟨t, rfl, by simpa using b0, fun i oi u hi hne hoi hdi hu => ?_, fun i oi hi hoi => ?_⟩
      · have := b2 _ (zip_mem hoi)
        simp only [Bool.or_eq_true, beq_iff_eq, hi, decide_true, hdi] at this
        rcases this with e | e | e
        · exact absurd e hne
        · simp at e; exact absurd hu e
        · exact e
      · have := b2 _ (zip_mem hoi)
        have hni : ¬ i < q := by omega
        have hnj : i ≠ j := by omega
        simp only [Bool.or_eq_true, beq_iff_eq, hni, decide_false, hnj, false_or, Bool.and_eq_true, bne_iff_ne, ne_eq] at this
        obtain ⟨c1, c2, c3⟩ := this
        refine ⟨c1, fun ht => ?_, fun u hu => ?_⟩
        · rcases c2 with e | e
          · simp at e; exact absurd ht e
          · exact e
        · rw [hu] at c3
          simpa using c3
/-! ### The ready ones -/
def Lst (listed : Array Bool) (i : Nat) : Prop := listed.getD i false = true
theorem lst_set {listed : Array Bool} {i j : Nat} (hi : i < listed.size) : Lst (listed.setIfInBounds i true) j ↔ j = i ∨ Lst listed j := by
  unfold Lst
  rw [Array.getD_eq_getD_getElem?, Array.getD_eq_getD_getElem?, Array.getElem?_setIfInBounds]
  by_cases h : i = j
  · subst h; simp [hi]
  · rw [if_neg h]
    constructor
    · exact fun h => .inr h
    · rintro (e | e)
      · exact absurd e.symm h
      · exact e
theorem ready_iff {ops : Array Oper} {listed : Array Bool} (hsz : listed.size = ops.size) {i : Nat} : i ∈ Region.ready .any ops listed ↔ ∃ o, ops.toList[i]? = some o ∧ ¬ Lst listed i ∧ ∀ j ∈ edges o, Lst listed j := by
  unfold Region.ready
  simp only [List.mem_filter, List.mem_range, Bool.and_eq_true, Bool.not_eq_true']
  constructor
  · rintro ⟨hi, hl, h⟩
    have ho : ops[i]? = some ops[i] := Array.getElem?_eq_getElem hi
    rw [ho] at h
    simp only [Option.map_some, Option.getD_some] at h
    refine ⟨ops[i], by rw [Array.getElem?_toList]; exact ho, ?_, fun j hj => ?_⟩
    · unfold Lst
      have : listed.getD i true = listed.getD i false := by simp [hsz, hi]
      rw [← this, hl]; simp
    · simp only [edges, List.mem_map, List.mem_filter] at hj
      obtain ⟨e, ⟨he, hb⟩, rfl⟩ := hj
      have := Array.all_eq_true_iff_forall_mem.1 h e (by simpa using he)
      rw [hb] at this
      simpa [Lst] using this
  · rintro ⟨o, ho, hl, h⟩
    rw [Array.getElem?_toList] at ho
    have hi := (Array.getElem?_eq_some_iff.1 ho).1
    refine ⟨hi, ?_, ?_⟩
    · unfold Lst at hl
      have : listed.getD i true = listed.getD i false := by simp [hsz, hi]
      rw [this]; simpa using hl
    · rw [ho]
      simp only [Option.map_some, Option.getD_some]
      refine Array.all_eq_true_iff_forall_mem.2 fun e he => ?_
      cases hb : Region.binds .any e with
      | false => rfl
      | true =>
        have := h e.on (by simp only [edges, List.mem_map, List.mem_filter]; exact ⟨e, ⟨by simpa using he, hb⟩, rfl⟩)
        simpa [Lst] using this
def cnt (n : Nat) (listed : Array Bool) : Nat := ((List.range n).filter fun i => !listed.getD i false).length
theorem filter_lt {α : Type} {p p' : α → Bool} : ∀ {l : List α}, (∀ x, p' x = true → p x = true) → (∃ i ∈ l, p i = true ∧ p' i = false) → (l.filter p').length < (l.filter p).length
  | [], _, h => by obtain ⟨i, h, _⟩ := h; simp at h
  | x :: l, hp, ⟨i, hi, h1, h2⟩ => by
    have hle : ∀ l : List α, (l.filter p').length ≤ (l.filter p).length := fun l => by
      induction l with
      | nil => simp
      | cons y l ih =>
        simp only [List.filter_cons]
        cases hy : p' y with
        | true => simp [hp y hy, ih]
        | false => cases p y <;> simp <;> omega
    rcases List.mem_cons.1 hi with rfl | hi
    · simp only [List.filter_cons, h1, h2, if_true, List.length_cons]
      have := hle l
      simp
      omega
    · have ih := filter_lt hp ⟨i, hi, h1, h2⟩
      simp only [List.filter_cons]
      cases hx : p' x with
      | true => simp [hp x hx]; exact ih
      | false => cases p x <;> simp <;> omega
theorem cnt_set {n i : Nat} {listed : Array Bool} (hi : i < n) (hs : listed.size = n) (hl : ¬ Lst listed i) : cnt n (listed.setIfInBounds i true) < cnt n listed := by
  refine filter_lt (fun x hx => ?_) ⟨i, List.mem_range.2 hi, ?_, ?_⟩
  · have := (lst_set (listed := listed) (i := i) (j := x) (by omega))
    unfold Lst at this
    cases h : listed.getD x false with
    | false => rfl
    | true => rw [this.2 (.inr h)] at hx; simp at hx
  · unfold Lst at hl; simpa using hl
  · have := (lst_set (listed := listed) (i := i) (j := i) (by omega)).2 (.inl rfl)
    unfold Lst at this; rw [this]; rfl
theorem cnt_pos {n i : Nat} {listed : Array Bool} (hi : i < n) (hl : ¬ Lst listed i) : 0 < cnt n listed := by
  unfold cnt
  refine List.length_pos_of_mem (a := i) (List.mem_filter.2 ⟨List.mem_range.2 hi, ?_⟩)
  unfold Lst at hl
  simpa using hl
/-- One operation of the tail. -/
theorem opsK_step {R : Type} {call : CallK R} {ops : Array Oper} {Q : Exit → Act → World → Prop} {N : Act → World → Prop} (hc : CallS P call) (cx : CtxOk P C) {rest : List Oper} {q : Nat} {K : St → Option R} {out : R} (h : opsK C call ops q [] (o :: rest) st K = some out) (hs : Sim L w0 F0 X st a w)
    (hN : ∀ st' a' w', opsK C call ops (q - 1) [] rest st' K = some out → (∃ v, st'.env = put st.env o.dst v) → Sim L w0 F0 X st' a' w' → N a' w') : if Region.wanted o (yielded ops a.tmps) then o.wp P a w N Q ∨ (o.asks P a w ∧ LetsOut Q) else N (a.put o.dst undef) w := by
  obtain ⟨F, β, gd, hd, hsz, henv⟩ := hs
  simp only [opsK, List.headD_nil, List.tail_nil] at h
  split at h
  · rename_i hg
    rw [if_pos (by simp [Region.wanted, hg])]
    left
    obtain ⟨v, H', h1, hst⟩ := doK_ok hc gd cx henv h
    exact hst _ _ fun v' w' F' β' g2 k2 r => hN _ _ _ h1 ⟨_, rfl⟩ (sim_next gd hd hsz henv g2 k2 r)
  · rename_i j want hg
    split at h
    · simp at h
    · rename_i d hdst
      split at h
      case h_3 => simp at h
      case h_2 =>
        rename_i hb
        rw [if_neg (by simp [Region.wanted, hg, yield_skip hdst (henv d) hb])]
        exact hN _ _ _ h ⟨_, rfl⟩ (sim_next gd hd hsz henv gd ⟨fun _ h => h, fun _ _ => rfl, fun _ _ h => h, fun h s hs => ⟨s, hs, like_refl s⟩⟩ rep_skip)
      rename_i b hb
      have hset : st.env.set d (.one (.bool b)) = st.env := set_same hb (by simp)
      have hyield : yielded ops a.tmps j = some b := by
        unfold yielded
        rw [hdst]
        simp only [Option.bind_some, env_bool (henv d) hb]
      have hwant : Region.wanted o (yielded ops a.tmps) = (b == want) := by
        simp [Region.wanted, hg, hyield]
      have go : doK C call (0 < q) o st.env st.heap (fun v H => opsK C call ops (q - 1) [] rest ⟨put st.env o.dst v, H, st.roots⟩ K) = some out → o.wp P a w N Q := fun hh => by
        obtain ⟨v, H', h1, hst⟩ := doK_ok hc gd cx henv hh
        exact hst _ _ fun v' w' F' β' g2 k2 r => hN _ _ _ h1 ⟨_, rfl⟩ (sim_next gd hd hsz henv g2 k2 r)
      have skip : opsK C call ops (q - 1) [] rest ⟨put st.env o.dst (.tup []), st.heap, st.roots⟩ K = some out → N (a.put o.dst undef) w := fun hh =>
        hN _ _ _ hh ⟨_, rfl⟩ (sim_next gd hd hsz henv gd ⟨fun _ h => h, fun _ _ => rfl, fun _ _ h => h, fun h s hs => ⟨s, hs, like_refl s⟩⟩ rep_skip)
      cases b with
      | true =>
        rw [hset] at h
        cases want with
        | true => rw [if_pos (by simp [hwant])]; exact .inl (go h)
        | false => rw [if_neg (by simp [hwant])]; exact skip h
      | false =>
        rw [hset] at h
        cases want with
        | true => rw [if_neg (by simp [hwant])]; exact skip h
        | false => rw [if_pos (by simp [hwant])]; exact .inl (go h)
end
end Go.Proofs.Ytanpdkllnmeenaa.Am

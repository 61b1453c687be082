/- The machine's operations that change what is there. -/
import Derived.Test.YtanpdkllnmeenaaAmGood
import Derived.Laws.CopyRow
import Derived.Deep.Upon
namespace Go.Proofs.Ytanpdkllnmeenaa.Am
open Go Go.RowKit
set_option linter.unusedVariables false
set_option linter.unusedSectionVars false
set_option linter.unusedSimpArgs false
section
variable {P : Program} {C : Ctx} {F F' : Nat → Prop} {w w' : World} {β β' : Bd} {H H' G : Heap}
variable {L : Nat → Prop} {w0 : World} {F0 : Nat → Prop} {n : Nat} {sl : List Slot} {env : List AV} {a : Act} {o : Oper} {v : AV} {base : Nat → Prop}
theorem bound_lt (gd : Good L w0 w F0 F β H) {h : Nat} {u : Value} (hb : β h = some u) : h < H.length := by
  obtain ⟨s, h1, _⟩ := gd.dom h u hb
  exact (List.getElem?_eq_some_iff.1 h1).1
theorem free_end (gd : Good L w0 w F0 F β H) (j : Nat) : β (H.length + j) = none := by
  cases hb : β (H.length + j) with
  | none => rfl
  | some u => have := bound_lt gd hb; omega
theorem Keeps.trans {F1 F2 F3 : Nat → Prop} {w1 w2 w3 : World} {b1 b2 b3 : Bd} {H1 H2 H3 : Heap} (h : Keeps F1 F2 w1 w2 b1 b2 H1 H2) (k : Keeps F2 F3 w2 w3 b2 b3 H2 H3) : Keeps F1 F3 w1 w3 b1 b3 H1 H3 := by
  refine ⟨fun g hg => k.f g (h.f g hg), fun g hg => (k.w g (h.f g hg)).trans (h.w g hg), fun x u hx => k.b _ _ (h.b _ _ hx), fun x s hs => ?_⟩
  obtain ⟨s2, e2, l2⟩ := h.h x s hs
  obtain ⟨s3, e3, l3⟩ := k.h x s2 e2
  refine ⟨s3, e3, ?_⟩
  cases s <;> cases s2 <;> cases s3 <;> first
    | trivial
    | exact l2.elim
    | exact l3.elim
    | (obtain ⟨rfl, e⟩ := l2
       obtain ⟨rfl, e'⟩ := l3
       exact ⟨rfl, fun h => (e'.1 h).trans (e.1 h), fun h => e.2 (e'.2 h)⟩)
/-- Nil slices get rows. -/
theorem good_nils (gd : Good L w0 w F0 F β H) (hn : Nils sl) : ∃ β', Good L w0 w F0 F β' (H ++ sl) ∧ Keeps F F w w β β' H (H ++ sl) ∧ AtN β' (H ++ sl) H.length sl := by
  obtain ⟨g1, k1⟩ := good_more gd sl
  have hext : ∀ h u, β h = some u → ext β H.length (List.replicate sl.length (.slice none 0 0)) h = some u := fun h u => ext_old fun j _ => free_end gd j
  have k2 : Keeps F F w w β (ext β H.length (List.replicate sl.length (.slice none 0 0))) (H ++ sl) (H ++ sl) := keeps_ext hext fun _ _ => rfl
  have hat : ∀ (j : Nat) (s : Slot), sl[j]? = some s → (H ++ sl)[H.length + j]? = some s := fun j s hs => by
    rw [List.getElem?_append_right (by omega)]; simpa using hs
  refine ⟨_, ⟨g1.below, g1.fsz, g1.f0, g1.f1, fun h u hu => ?_, fun h h' s s' u u' g h1 h2 l1 l2 b1 b2 q1 q2 => ?_⟩, k1.trans k2, fun j s hs => ⟨hat j s hs, ext_new ?_⟩⟩
  · rcases ext_some hu with ⟨j, rfl, hj⟩ | hu
    · have hj' := (List.getElem?_eq_some_iff.1 hj).1
      rw [List.length_replicate] at hj'
      have e := List.getElem?_eq_getElem hj'
      exact ⟨_, hat _ _ e, hn.slots e hj⟩
    · obtain ⟨s, h1, h2⟩ := g1.dom h u hu
      exact ⟨s, h1, h2.keep k2 fun _ _ _ => ⟨rfl, id⟩⟩
  · rcases ext_some b1 with ⟨j, rfl, hj⟩ | b1
    · exact (nils_blk hj q1).elim
    · rcases ext_some b2 with ⟨j, rfl, hj⟩ | b2
      · exact (nils_blk hj q2).elim
      · exact g1.sep h h' s s' u u' g h1 h2 l1 l2 b1 b2 q1 q2
  · have hj := (List.getElem?_eq_some_iff.1 hs).1
    rw [List.getElem?_replicate_of_lt hj]
theorem setRow_ne {g k : Nat} {cs : Array Value} (h : k ≠ g) : (w.setRow g cs).heap[k]? = w.heap[k]? := by
  simp [World.setRow, Array.getElem?_modify, Ne.symm h]
theorem setRow_size {g : Nat} {cs : Array Value} : (w.setRow g cs).heap.size = w.heap.size := by simp [World.setRow]
theorem setRow_below {g b : Nat} {cs : Array Value} (h : b ≤ g) : Below b w (w.setRow g cs) := ⟨rfl, rfl, rfl, by rw [setRow_size]; exact Nat.le_refl _, fun k hk => setRow_ne (by omega)⟩
theorem drop_patch {α : Type} {c L : List α} {o a : Nat} (h : o + a ≤ c.length) : (c.take (o + a) ++ L ++ c.drop (o + a + L.length)).drop o = (c.drop o).take a ++ L ++ (c.drop o).drop (a + L.length) := by
  rw [List.append_assoc, List.drop_append_of_le_length (by rw [List.length_take]; omega), List.drop_take, List.append_assoc, List.drop_drop, Nat.add_sub_cancel_left, Nat.add_assoc]
theorem run_storeAt {t : TypeId} {T : Ty} {d : TypeDesc} {i : TypeInfo} {z : Value} (tk : TOk P C t T d i z) {g off : Nat} {e : TypeId} {cur : Array Value} {u : Value} (hh : w.heap[g]? = some (.cells cur e (0, 0))) (hl : u.cells.toList.length = T.size) (hfit : off + T.size ≤ cur.size) (h1 : ∀ x ∈ u.cells.toList, x.oneCell' = true) :
    (Instr.storeAt t (.pointer (some ⟨g, off, none⟩)) u).run P w = .ok () (w.setRow g (cur.toList.take off ++ u.cells.toList ++ cur.toList.drop (off + T.size)).toArray) := by
  have hsz : (sizeOf t).run P w = .ok T.size w := by simp [sizeOf, run_typeInfo w tk.info, tk.size]
  have hl' : u.cells.size = T.size := by simpa using hl
  have := run_storeCells_at (P := P) g off e u.cells.toList 0 cur w hh (by omega) h1
  simp only [Nat.add_zero, hl] at this
  simp [Instr.storeAt, Instr.sureAddr, storeVar, hsz, hl', this]
theorem patch_take {α : Type} {cur L : List α} {a s off N : Nat} (h1 : off + L.length ≤ s) (h2 : a + s ≤ N) (h3 : N ≤ cur.length) :
    (cur.take (a + off) ++ L ++ cur.drop (a + off + L.length)).take N = (cur.take N).take a ++ ((((cur.take N).drop a).take s).take off ++ L ++ (((cur.take N).drop a).take s).drop (off + L.length)) ++ (cur.take N).drop (a + s) := by
  apply List.ext_getElem?
  intro j
  simp only [List.getElem?_take, List.getElem?_append, List.getElem?_drop, List.length_take, List.length_append, List.length_drop]
  repeat' split
  all_goals first
    | rfl
    | omega
    | (congr 1; omega)
theorem all2_one {cs : List CV} {vs : List Value} (h : All2 (RepV F w β H) cs vs) : ∀ x ∈ vs, x.oneCell' = true := by
  induction h with
  | nil => intro x hx; simp at hx
  | cons r _ ih =>
    intro x hx
    rcases List.mem_cons.1 hx with rfl | hx
    · exact RepV.one r
    · exact ih x hx
/-- A part of a row that stays. -/
theorem sub_rep {Q : Option Addr → Nat → Prop} {t : Ty} {xs : List t.den} {u : Value} {p m : Nat} {b : Option Value} (r : (t.isMp = false ∧ p + m ≤ xs.length) ∧ ∃ A c, u = .slice A m c ∧ m ≤ c ∧ (m = 0 ∨ ∃ g q n k, b = some (.slice (some ⟨g, q, none⟩) n k) ∧ A = some ⟨g, q + p * t.size, none⟩) ∧ Q A c)
    (ok : ∀ {x : Value}, b = some x → RepC F w (.sl t) xs [x]) : RepC F w (.sl t) ((xs.drop p).take m) [u] := by
  obtain ⟨⟨hm, r1⟩, A, c, r2, r3, r4, _⟩ := r
  have hlen : ((xs.drop p).take m).length = m := by rw [List.length_take, List.length_drop]; omega
  rcases r4 with r4 | ⟨g, q, n, kk, r4, r5⟩
  · exact ⟨A, c, by rw [r2, hlen, hdr_sl hm], by omega, .inl ⟨List.length_eq_zero_iff.1 (by omega), fun h => by simp [hm] at h⟩⟩
  · obtain ⟨A', cap, e1, e2, e3⟩ := ok r4
    rw [hdr_sl hm] at e1
    simp at e1
    obtain ⟨rfl, rfl, rfl⟩ := e1
    refine ⟨A, c, by rw [r2, hlen, hdr_sl hm], by omega, ?_⟩
    rcases e3 with ⟨e3, _⟩ | ⟨g2, o2, cells, h1, h2, h3, h4⟩
    · exact .inl ⟨by rw [e3]; simp, fun h => by simp [hm] at h⟩
    · simp at h1
      obtain ⟨rfl, rfl⟩ := h1
      exact .inr ⟨g, _, _, r5, h2, h3.sub p m, (lies_sl hm).2 (range_cut ((lies_sl hm).1 h4) _ _)⟩
/-- What is laid into a row. -/
theorem frz1_ok (gd : Good L w0 w F0 F β H) {c c' : CV} {u : Value} (r : RepV F w β H c u) (h : frz1 H c = some (c', H')) :
    ∃ F', Good L w0 w F0 F' β H' ∧ Keeps F F' w w β β H H' ∧ RepV F' w β H' c' u := by
  have same : some (c, H) = some (c', H') → ∃ F', Good L w0 w F0 F' β H' ∧ Keeps F F' w w β β H H' ∧ RepV F' w β H' c' u := fun h => by
    injection h with h
    injection h with h1 h2
    subst h1 h2
    exact ⟨F, gd, ⟨fun _ h => h, fun _ _ => rfl, fun _ _ h => h, fun h s hs => ⟨s, hs, like_refl s⟩⟩, r⟩
  cases c with
  | ref k =>
    simp only [frz1] at h
    split at h
    · rename_i l e t xs hs
      injection h with h
      injection h with h1 h2
      subst h1 h2
      have hH := slotAt_row hs (by simp)
      obtain ⟨F', g', k', _, _⟩ := good_freeze gd hH
      refine ⟨F', g', k', ?_⟩
      simp only [RepV, hH] at r
      exact g'.slot r.1 (set_at hH)
    · simp at h
  | sub k p m =>
    simp only [frz1] at h
    split at h
    · rename_i l e t xs hs
      injection h with h
      injection h with h1 h2
      subst h1 h2
      have hH := slotAt_row hs (by simp)
      obtain ⟨F', g', k', _, _⟩ := good_freeze gd hH
      refine ⟨F', g', k', ?_⟩
      simp only [RepV, hH] at r
      exact sub_rep r (g'.slot · (set_at hH))
    · simp at h
  | _ => exact same h
theorem frzL_ok : ∀ {cs cs' : List CV} {vs : List Value} {F : Nat → Prop} {H H' : Heap}, Good L w0 w F0 F β H → All2 (RepV F w β H) cs vs → frzL H cs = some (cs', H') →
    ∃ F', Good L w0 w F0 F' β H' ∧ Keeps F F' w w β β H H' ∧ All2 (RepV F' w β H') cs' vs
  | [], cs', vs, F, H, H', gd, r, h => by
    simp [frzL] at h
    obtain ⟨rfl, rfl⟩ := h
    cases r
    exact ⟨F, gd, ⟨fun _ h => h, fun _ _ => rfl, fun _ _ h => h, fun h s hs => ⟨s, hs, like_refl s⟩⟩, .nil⟩
  | c :: l, cs', vs, F, H, H', gd, r, h => by
    simp only [frzL, Option.bind_eq_some_iff, Option.map_eq_some_iff] at h
    obtain ⟨q, h1, q2, h2, h3⟩ := h
    simp at h3
    obtain ⟨rfl, rfl⟩ := h3
    cases r with
    | cons r rt =>
      obtain ⟨F1, g1, k1, r1⟩ := frz1_ok (c' := q.1) (H' := q.2) gd r h1
      obtain ⟨F2, g2, k2, r2⟩ := frzL_ok (cs' := q2.1) (H' := q2.2) g1 (rt.mono fun _ _ => RepV.mono k1) h2
      exact ⟨F2, g2, k1.trans k2, .cons (r1.mono k2) r2⟩
def EPost (P : Program) (w0 w : World) (F0 F : Nat → Prop) (β : Bd) (H : Heap) (o : Oper) (a : Act) (v : AV) (H' : Heap) : Prop :=
  ∃ nx w' F' β', (execOp a.eval o).run P w = .ok nx w' ∧ Good L w0 w' F0 F' β' H' ∧ Keeps F F' w w' β β' H H' ∧ ((∃ v', nx = .value v' ∧ RepA F' w' β' H' v v') ∨ (nx = .skip ∧ v = .undef))
section ops
variable (gd : Good L w0 w F0 F β H) (hE : ∀ x ∈ o.op.operands, OpOk F w β H env a x) (cx : CtxOk P C)
include gd hE cx
theorem e_store {t : TypeId} {T : Ty} {x y : Operand} {c : CV} {q : AV × List Slot} {us : List CV} (ho : o.op = .store t x y) (hT : C.ty t = some T) (h1 : oprC env x = some c) (h2 : opd C env H.length t y = some q) (h3 : q.1.cells = some us) (hlen : us.length = T.size)
    (h4 : storeP H us q.2 c = some H') (hv : v = .undef) : EPost (L := L) P w0 w F0 F β H o a v H' := by
  subst hv
  obtain ⟨d, it, z, tk⟩ := cx.ty _ _ hT
  have hx := (hE x (by rw [ho]; simp [Op.operands])).cell h1
  have hy : OpOk F w β H env a y := hE y (by rw [ho]; simp [Op.operands])
  have hrun : ∀ {w'}, (Instr.storeAt t (a.eval x) (a.eval y)).run P w = .ok () w' → (execOp a.eval o).run P w = .ok .skip w' := fun {w'} h => by
    simp [execOp, ho, h]
  unfold storeP at h4
  split at h4
  case h_2 => simp at h4
  rename_i h i off
  split at h4
  · -- a variable
    rename_i bt cs hs
    split at h4
    case isFalse => simp at h4
    rename_i hc
    obtain ⟨rfl, hfit⟩ := hc
    simp at h4
    subst h4
    have hH := slotAt_row hs (by simp)
    have hn := opd_nils h2
    obtain ⟨β1, g1, k1, hat⟩ := good_nils gd hn
    have r1 := cells_ok h3 (opd_ok (fun v hv => (hy v hv).mono k1) h2 hat)
    have hx1 := hx.mono k1
    have hH1 : (H ++ q.2)[h]? = some (.box bt cs) := by rw [List.getElem?_append_left (List.getElem?_eq_some_iff.1 hH).1]; exact hH
    simp only [RepV, RepPtr, hH1] at hx1
    obtain ⟨_, g, hb, hxv⟩ := hx1
    obtain ⟨g', arr, e, hu, hbase, harr, hall, hnF⟩ := g1.slot hb hH1
    simp at hu
    subst hu
    have hal := hall.length
    have hul := r1.length
    have hst := run_storeAt tk (w := w) (off := off) (u := a.eval y) harr (by omega) (by simp at hal; omega) (all2_one r1)
    have e1 : (H.set h (.box bt (setAt cs off us))) ++ q.2 = (H ++ q.2).set h (.box bt (setAt cs off us)) := by
      rw [List.set_append_left _ _ (List.getElem?_eq_some_iff.1 hH).1]
    rw [e1]
    obtain ⟨g2, k2⟩ := good_write (w' := w.setRow g (arr.toList.take off ++ (a.eval y).cells.toList ++ arr.toList.drop (off + T.size)).toArray) g1 hH1 rfl hb (g := g) rfl (s' := .box bt (setAt cs off us)) trivial (setRow_below (Nat.zero_le _)) setRow_size (fun k hk => setRow_ne hk) fun kp => ⟨g, _, e, rfl, hbase, setRow_heap w g arr _ e (0, 0) harr, by
      have := ((hall.mono fun _ _ => RepV.mono kp).patch (r1.mono fun _ _ => RepV.mono kp) off)
      rw [← setAt_eq _ _ _ hfit, show (a.eval y).cells.toList.length = T.size by omega] at this
      exact this, hnF⟩
    exact ⟨_, _, F, β1, hrun (by rw [hxv]; exact hst), g2, k1.trans k2, .inr ⟨rfl, rfl⟩⟩
  · -- a row's element
    rename_i l0 e0 t0 xs0 hs
    split at h4
    case isFalse => simp at h4
    rename_i hq2
    simp only [Option.bind_eq_some_iff] at h4
    obtain ⟨p, hp, h5⟩ := h4
    split at h5
    case h_2 => simp at h5
    rename_i e t' xs hs2
    split at h5
    case isFalse => simp at h5
    rename_i hfit
    obtain ⟨hfit, hmp⟩ := hfit
    simp only [Option.map_eq_some_iff] at h5
    obtain ⟨y', hy', rfl⟩ := h5
    have hH := slotAt_row hs (by simp)
    have hq2' : q.2 = [] := List.length_eq_zero_iff.1 hq2
    have r1 := cells_ok h3 (opd_ok hy h2 (by rw [hq2']; intro j s hj; simp at hj))
    obtain ⟨F1, g1, k1, r2⟩ := frzL_ok (cs' := p.1) (H' := p.2) gd r1 hp
    have hH2 := slotAt_row hs2 (by simp)
    have hx1 := hx.mono k1
    simp only [RepV, RepPtr, hH2] at hx1
    obtain ⟨⟨_, hi⟩, g, oo, nn, cc, hb, hxv⟩ := hx1
    obtain ⟨⟨cells, ho, hr⟩, hnF⟩ := g1.slot hb hH2
    rw [owns_sl hmp] at ho
    obtain ⟨hl, h6 | ⟨g', o', cap, cur, h6, h8, h9, h10, h11, h12⟩⟩ := ho
    · rw [h6.1] at hb; have := h6.2; omega
    simp at h6
    obtain ⟨⟨rfl, rfl⟩, rfl, rfl⟩ := h6
    have hx0 : xs[i]? = some (xs.getD i t'.dflt) := by rw [List.getD_eq_getElem?_getD, List.getElem?_eq_getElem hi]; simp
    have hrx := hr.get hx0
    have hfl := rep_flat (β := β) (H := p.2) hrx
    have hul := r1.length
    have hpl := r2.length
    have hel := hrx.len
    have hcle : i * t'.size + t'.size ≤ cells.length := by
      have := Nat.mul_le_mul_right t'.size (show i + 1 ≤ xs.length from hi)
      rw [Nat.add_mul] at this
      omega
    have hcap : xs.length * t'.size ≤ cc * t'.size := Nat.mul_le_mul_right _ h9
    have hst := run_storeAt tk (w := w) (off := oo + (i * t'.size + off)) (u := a.eval y) h8 (by omega) (by omega) (all2_one r1)
    rw [Nat.add_assoc] at hxv
    have hpatch := hfl.patch r2 off
    have hsl : (flat t' (xs.getD i t'.dflt)).length = t'.size := by rw [hfl.length]; exact hel
    have hse := setAt_eq p.1 (flat t' (xs.getD i t'.dflt)) off (by omega)
    rw [← hse] at hpatch
    have hry := rep_unflat1 hy' hpatch
    have hryl := hry.len
    have hrow := hr.set hi hryl hry
    have hpt := patch_take (cur := cur.toList.drop oo) (L := (a.eval y).cells.toList) (a := i * t'.size) (s := t'.size) (off := off) (N := xs.length * t'.size) (by omega) (by omega) (by simp; omega)
    rw [h12, show (a.eval y).cells.toList.length = T.size by omega] at hpt
    rw [show (a.eval y).cells.toList.length = T.size by omega] at hrow
    have hul' : us.length = (a.eval y).cells.size := by simpa using hul
    have hdp := drop_patch (c := cur.toList) (L := (a.eval y).cells.toList) (o := oo) (a := i * t'.size + off) (by simp; omega)
    rw [show (a.eval y).cells.toList.length = T.size by omega] at hdp
    have hsz : oo + cc * t'.size ≤ (cur.toList.take (oo + (i * t'.size + off)) ++ (a.eval y).cells.toList ++ cur.toList.drop (oo + (i * t'.size + off) + T.size)).toArray.size := by
      simp only [List.size_toArray, List.length_append, List.length_take, List.length_drop, Array.length_toList]
      rw [Nat.min_eq_left (by omega)]
      omega
    obtain ⟨g2, k2⟩ := good_write (w' := w.setRow g (cur.toList.take (oo + (i * t'.size + off)) ++ (a.eval y).cells.toList ++ cur.toList.drop (oo + (i * t'.size + off) + T.size)).toArray) g1 hH2 rfl hb (g := g) rfl (s' := .row true e t' (xs.set i y')) ⟨rfl, fun _ => by simp, id⟩ (setRow_below (Nat.zero_le _)) setRow_size (fun k hk => setRow_ne hk)
      fun kp => ⟨⟨_, (owns_sl hmp).2 ⟨hrow.1, (.inr ⟨g, oo, cc, _, by simp, setRow_heap w g cur _ e (0, 0) h8, by simpa using h9, h10, hsz, by rw [List.length_set]; simp only [hdp]; exact hpt⟩)⟩, hrow.mono fun _ _ => RepC.mono kp.f kp.w⟩, hnF⟩
    exact ⟨_, _, F1, β, hrun (by rw [hxv]; exact hst), g2, k1.trans k2, .inr ⟨rfl, rfl⟩⟩
  · simp at h4
end ops
end
end Go.Proofs.Ytanpdkllnmeenaa.Am

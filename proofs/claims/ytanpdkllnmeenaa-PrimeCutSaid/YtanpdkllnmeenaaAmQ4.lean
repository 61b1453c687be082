/- The quiet operations: what is built. -/
import Derived.Test.YtanpdkllnmeenaaAmQ3
namespace Go.Proofs.Ytanpdkllnmeenaa.Am
open Go Go.RowKit
set_option linter.unusedVariables false
set_option linter.unusedSectionVars false
set_option linter.unusedSimpArgs false
theorem setAt_eq : ∀ (us : List CV) (cs : List CV) (off : Nat), off + us.length ≤ cs.length → setAt cs off us = cs.take off ++ us ++ cs.drop (off + us.length)
  | [], cs, off, h => by simp [setAt]
  | c :: r, cs, off, h => by
    simp only [List.length_cons] at h ⊢
    rw [setAt, setAt_eq r _ _ (by rw [List.length_set]; omega)]
    have h1 : (cs.set off c).take (off + 1) = cs.take off ++ [c] := by
      rw [List.take_succ_eq_append_getElem (by rw [List.length_set]; omega), List.take_set_of_le (Nat.le_refl _), List.getElem_set_self]
    rw [h1, List.drop_set_of_lt (by omega), show off + 1 + r.length = off + (r.length + 1) by omega]
    simp
theorem fold_set_eq (off : Nat) : ∀ (l : List Value) (k : Nat) (cells : Array Value), off + k + l.length ≤ cells.size →
    ((l.zipIdx k).foldl (fun cs (p : Value × Nat) => cs.setIfInBounds (off + p.2) p.1) cells).toList = cells.toList.take (off + k) ++ l ++ cells.toList.drop (off + k + l.length)
  | [], k, cells, h => by simp
  | v :: r, k, cells, h => by
    simp only [List.length_cons] at h ⊢
    rw [List.zipIdx_cons, List.foldl_cons, fold_set_eq off r (k + 1) _ (by simp; omega)]
    have h1 : (cells.setIfInBounds (off + k) v).toList.take (off + (k + 1)) = cells.toList.take (off + k) ++ [v] := by
      rw [Array.toList_setIfInBounds, show off + (k + 1) = (off + k) + 1 by omega, List.take_succ_eq_append_getElem (by rw [List.length_set]; simp; omega), List.take_set_of_le (Nat.le_refl _), List.getElem_set_self]
    rw [h1, Array.toList_setIfInBounds, List.drop_set_of_lt (by omega), show off + (k + 1) + r.length = off + k + (r.length + 1) by omega]
    simp
theorem zip_fold (off : Nat) (vs cells : Array Value) (h : off + vs.size ≤ cells.size) :
    (vs.zipIdx.foldl (fun cs (p : Value × Nat) => cs.setIfInBounds (off + p.2) p.1) cells).toList = cells.toList.take off ++ vs.toList ++ cells.toList.drop (off + vs.size) := by
  rw [← Array.foldl_toList, Array.toList_zipIdx, fold_set_eq off _ 0 _ (by simpa using h)]
  simp
theorem All2.patch {α β : Type} {R : α → β → Prop} {cs : List α} {vs : List β} {us : List α} {ws : List β} (h : All2 R cs vs) (k : All2 R us ws) (off : Nat) :
    All2 R (cs.take off ++ us ++ cs.drop (off + us.length)) (vs.take off ++ ws ++ vs.drop (off + ws.length)) := by
  rw [k.length]
  exact ((h.take off).append k).append (h.drop _)
section
variable {P : Program} {C : Ctx} {F : Nat → Prop} {w : World} {β β' : Bd} {H G : Heap}
variable {L : Nat → Prop} {w0 : World} {F0 : Nat → Prop} {n : Nat} {sl : List Slot} {env : List AV} {a : Act} {o : Oper} {v : AV}
theorem fill_ok (cx : CtxOk P C) {t : TypeId} {fields : Array Field} {pl : List (Nat × Nat)} (hu : P.underlying t = some (.struct fields)) (hp : fields.toList.mapM (fun f => (P.info? f.type).map fun i => (f.offset, i.size)) = some pl) :
    ∀ (parts : List (Nat × Operand)) (cs : List CV) (cells : Array Value) {cs' : List CV}, (∀ q ∈ parts, OpOk F w β G env a q.2) → foldB H C t env parts cs = some cs' → All2 (RepV F w β G) cs cells.toList →
      ∃ cells', Instr.fill (pl.toArray[·]?) cells (parts.map fun q => (q.1, a.eval q.2)) = some cells' ∧ All2 (RepV F w β G) cs' cells'.toList
  | [], cs, cells, cs', _, h, r => by
    simp [foldB] at h
    subst h
    exact ⟨cells, rfl, r⟩
  | (i, x) :: rest, cs, cells, cs', hE, h, r => by
    simp only [foldB, Option.bind_eq_some_iff] at h
    obtain ⟨fl, h1, v, h2, us, h3, h4⟩ := h
    split at h4
    case isFalse => simp at h4
    rename_i hc
    obtain ⟨fields', fd, i', d, pl', fk⟩ := cx.fld _ _ _ h1
    have e1 : fields' = fields := by have := fk.und; rw [hu] at this; simpa using this.symm
    subst e1
    have e2 : pl' = pl := by have := fk.places; rw [hp] at this; simpa using this.symm
    subst e2
    have hx := cells_ok h3 (hE (i, x) (by simp) _ h2)
    have hl := hx.length
    have hls := r.length
    simp only [Array.length_toList] at hl hls
    have hz := zip_fold fl.off (a.eval x).cells cells (by omega)
    have hr : All2 (RepV F w β G) (setAt cs fl.off us) ((a.eval x).cells.zipIdx.foldl (fun cs (p : Value × Nat) => cs.setIfInBounds (fl.off + p.2) p.1) cells).toList := by
      rw [hz, setAt_eq _ _ _ (by omega)]
      have := r.patch hx fl.off
      rwa [Array.length_toList] at this
    obtain ⟨cells', h5, h6⟩ := fill_ok cx hu hp rest _ _ (fun q hq => hE q (by simp [hq])) h4 hr
    refine ⟨cells', ?_, h6⟩
    have hpl : (pl'.toArray[i]? : Option (Nat × Nat)) = some (fl.off, fl.size) := by simpa using fk.place
    simp only [List.map_cons, Instr.fill, hpl]
    rw [if_neg (by simp; omega)]
    exact h5
section ops
variable (p : Pre L w0 w F0 F β H G n sl) (hE : ∀ x ∈ o.op.operands, OpOk F w β G env a x) (cx : CtxOk P C)
include p hE cx
theorem q_build {t : TypeId} {T : Ty} {fl0 : Fld} {parts : Array (Nat × Operand)} {cs cs' : List CV} (ho : o.op = .build t parts) (hf : C.fld t 0 = some fl0) (hT : C.ty t = some T) (h1 : foldB H C t env parts.toList (zeroC T) = some cs)
    (h2 : fixC C.el T cs n = (cs', sl, [])) (hv : v = .agg cs') : QPost P (Bs L w0) F w β G n o a v sl := by
  subst hv
  obtain ⟨d, i', z, tk⟩ := cx.ty _ _ hT
  obtain ⟨fields, fd, i, d', pl, fk⟩ := cx.fld _ _ _ hf
  have hn := fixC_nils (el := C.el) T cs n
  rw [h2] at hn
  have hmem : ∀ q ∈ parts.toList, q.2 ∈ o.op.operands := fun q hq => by
    rw [ho]
    simp only [Op.operands, List.mem_toArray, List.mem_map]
    exact ⟨q, hq, rfl⟩
  have key : ∀ β' : Bd, (∀ h u, β h = some u → β' h = some u) → ∃ cells', Instr.fill (pl.toArray[·]?) z.cells (parts.toList.map fun q => (q.1, a.eval q.2)) = some cells' ∧ All2 (RepV F w β' G) cs cells'.toList := fun β' hb =>
    fill_ok cx fk.und fk.places parts.toList (zeroC T) z.cells (fun q hq v hv => (hE q.2 (hmem q hq) v hv).mono (keeps_ext hb fun _ _ => rfl)) h1 (tk.rep F w β' G)
  obtain ⟨cells', hfill, _⟩ := key β fun _ _ h => h
  have hb : P.built t (parts.map fun q => (q.1, a.eval q.2)).toList = some cells' := by
    simp only [Program.built, tk.info, fk.und, tk.zero, fk.places, Array.toList_map]
    exact hfill
  refine ⟨.agg cells', w, List.replicate sl.length (.slice none 0 0), ?_, by simp, ⟨Below.refl _ _, fun _ => rfl⟩, fun j u g hu hg => (nils_blk hu hg).elim, fun β' hb' hβ => ⟨fun j s u hs hu => hn.slots hs hu, ?_⟩⟩
  · have := run_build w t (parts.map fun q => (q.1, a.eval q.2)) cells' hb
    simp [execOp, ho, this]
  · obtain ⟨c2, hf2, r⟩ := key β' hb'
    rw [hfill] at hf2
    injection hf2 with hf2
    subst hf2
    have hat : AtN β' G n sl := nils_at hn rfl p.new hβ
    have := fixC_ok (el := C.el) (T := T) (n := n) r (by rw [h2]; exact hat)
    rw [h2] at this
    obtain ⟨v1, v2, e, r1, r2⟩ := this
    cases r2
    exact ⟨cells', rfl, by rw [e, List.append_nil]; exact r1⟩
end ops
theorem fillS_ok {e : Ty} {k : Nat} :
    ∀ (parts : List (Nat × Operand)) (xs : List e.den) (cells : Array Value) {xs' : List e.den}, (∀ q ∈ parts, OpOk F w β G env a q.2) → foldS H e env parts xs = some xs' → RowC (RepC F w e) e.size xs cells.toList → xs.length = k →
      ∃ cells', Instr.fill (fun i => some (i * e.size, e.size)) cells (parts.map fun q => (q.1, a.eval q.2)) = some cells' ∧ RowC (RepC F w e) e.size xs' cells'.toList ∧ xs'.length = k
  | [], xs, cells, xs', _, h, r, hk => by
    simp [foldS] at h
    subst h
    exact ⟨cells, rfl, r, hk⟩
  | (i, x) :: rest, xs, cells, xs', hE, h, r, hk => by
    simp only [foldS, Option.bind_eq_some_iff] at h
    obtain ⟨v, h2, us, h3, y, h4, h5⟩ := h
    split at h5
    case isFalse => simp at h5
    rename_i hi
    have hx := rep_unflat1 h4 (cells_ok h3 (hE (i, x) (by simp) _ h2))
    have hl := hx.len
    have hle : i * e.size + e.size ≤ cells.size := by
      have := Nat.mul_le_mul_right e.size (show i + 1 ≤ xs.length from hi)
      have h := r.1
      rw [Nat.add_mul] at this
      simp only [Array.length_toList] at h
      omega
    have hz := zip_fold (i * e.size) (a.eval x).cells cells (by simp at hl; omega)
    have hr : RowC (RepC F w e) e.size (xs.set i y) ((a.eval x).cells.zipIdx.foldl (fun cs (p : Value × Nat) => cs.setIfInBounds (i * e.size + p.2) p.1) cells).toList := by
      have := r.set hi hl hx
      rw [hz]
      simp only [Array.length_toList] at hl
      rw [hl]
      exact this
    obtain ⟨cells', h6, h7, h8⟩ := fillS_ok rest _ _ (fun q hq => hE q (by simp [hq])) h5 hr (by simpa using hk)
    refine ⟨cells', ?_, h7, h8⟩
    simp only [Array.length_toList] at hl
    simp only [List.map_cons, Instr.fill]
    rw [if_neg (by simp; omega)]
    exact h6
theorem row_made {e : TypeId} {t : Ty} {ie : TypeInfo} {z : Value} (ek : EOk P e t ie z) (F : Nat → Prop) (w : World) (k : Nat) : RowC (RepC F w t) t.size (List.replicate k t.dflt) (madeCells z.cells (k * t.size)).toList := by
  refine ⟨by simp [size_madeCells], fun q x hq => ?_⟩
  have hlt := (List.getElem?_eq_some_iff.1 hq).1
  rw [List.length_replicate] at hlt
  rw [List.getElem?_replicate_of_lt hlt] at hq
  injection hq with hq
  subst hq
  have := made_elem (z := z.cells) hlt
  rw [ek.zsize] at this
  rw [this]
  exact ek.rep _ _
section ops
variable (p : Pre L w0 w F0 F β H G n sl) (hE : ∀ x ∈ o.op.operands, OpOk F w β G env a x) (cx : CtxOk P C)
include p hE cx
theorem q_buildSlice {ty : TypeId} {t : Ty} {len : Nat} {parts : Array (Nat × Operand)} {xs : List t.den} (ho : o.op = .buildSlice ty len parts) (hT : C.ty ty = some (.sl t)) (hmp : t.isMp = false) (h1 : foldS H t env parts.toList (List.replicate len t.dflt) = some xs)
    (h2 : len * t.size ≤ 16777216) (hv : v = .one (.ref n)) (hsl : sl = [.row true (C.el t) t xs]) : QPost P (Bs L w0) F w β G n o a v sl := by
  subst hv hsl
  obtain ⟨d, i', z', tk⟩ := cx.ty _ _ hT
  obtain ⟨hd, ie, z, ek⟩ := tk.sl _ rfl hmp
  subst hd
  have hmem : ∀ q ∈ parts.toList, q.2 ∈ o.op.operands := fun q hq => by
    rw [ho]
    simp only [Op.operands, List.mem_toArray, List.mem_map]
    exact ⟨q, hq, rfl⟩
  obtain ⟨cells', hf, hr, hlen⟩ := fillS_ok parts.toList _ (madeCells z.cells (len * t.size)) (fun q hq => hE q.2 (hmem q hq)) h1 (row_made ek F w len) (List.length_replicate ..)
  have hrun : (execOp a.eval o).run P w = .ok (.value (.slice (some ⟨w.heap.size, 0, none⟩) len len)) (w.alloc (.cells cells' (C.el t))) := by
    have hsz : (sizeOf (C.el t)).run P w = .ok t.size w := by simp [sizeOf, run_typeInfo w ek.info, ek.size]
    have hle : ¬ (2 ^ 24 < len * t.size) := by omega
    have e0 : (parts.map fun q => (q.1, a.eval q.2)).toList = parts.toList.map fun q => (q.1, a.eval q.2) := by simp
    by_cases hz : len * t.size = 0
    · have hm : (Array.range (len * t.size)).map (fun i => (#[] : Array Value)[i % (#[] : Array Value).size]!) = madeCells z.cells (len * t.size) := by rw [hz]; simp [madeCells]
      have hf' := hf
      rw [← hm, ← e0] at hf'
      simp only [execOp, ho, Instr.buildSlice, run_underlying tk.und, hsz, Sem.run_bind, Sem.run_pure, Result.andThen_ok, Sem.run_ite, hz, if_false, if_true, gt_iff_lt, Nat.not_lt_zero]
      rw [hz] at hf'
      simp only [hf', run_newRow, Result.andThen_ok, Sem.run_pure, Sem.run_bind]
    · have hf' := hf
      rw [← e0] at hf'
      simp only [execOp, ho, Instr.buildSlice, run_underlying tk.und, hsz, Sem.run_bind, Sem.run_pure, Result.andThen_ok, Sem.run_ite, hle, if_false, hz, gt_iff_lt, run_zero ek.info ek.zero]
      simp only [madeCells] at hf'
      simp only [hf', run_newRow, Result.andThen_ok, Sem.run_pure, Sem.run_bind]
  refine ⟨_, _, [.slice (some ⟨w.heap.size, 0, none⟩) len len], hrun, rfl, ⟨below_alloc' _, fun h => by simp at h⟩, fun q u g hu hg => ?_, fun β' hb hβ => ?_⟩
  · cases q with
    | zero => simp at hu; subst hu; simp [blk] at hg; subst hg; exact ⟨rfl, Nat.le_refl _, by simp⟩
    | succ q => simp at hu
  · have hG := p.new 0 _ rfl
    have h0' := hβ 0 _ rfl
    rw [Nat.add_zero] at hG h0'
    refine ⟨fun q s u hs hu => ?_, ?_⟩
    · cases q with
      | zero =>
        simp at hs hu
        subst hs hu
        have hc := hr.1
        rw [hlen] at hc
        have hm : len ≤ maxLen := by have := ek.pos; have := Nat.le_mul_of_pos_right len this; simp [maxLen]; omega
        refine ⟨⟨cells'.toList, (owns_sl hmp).2 (own_of ⟨by rw [hlen]; exact hc, .inr ⟨w.heap.size, len, _, by rw [hlen], Nat.zero_le _, alloc_at _, by omega, hm, by simpa using hc, ?_⟩⟩), ?_⟩, fun g hg => ?_⟩
        · rw [hlen, List.take_of_length_le (by omega)]
        · exact hr.mono fun _ _ => RepC.mono (fun _ h => h) (fun g hg => (below_alloc' _).block g (p.good.fsz g hg))
        · simp [blk] at hg
          subst hg
          exact ⟨.inl p.good.below.size, not_F p⟩
      | succ q => simp at hs
    · simp only [RepA, RepV, hG]
      exact ⟨h0', rfl⟩
end ops
end
end Go.Proofs.Ytanpdkllnmeenaa.Am

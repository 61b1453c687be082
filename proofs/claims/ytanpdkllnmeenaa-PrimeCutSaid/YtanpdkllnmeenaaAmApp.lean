/- Appending, and slices that are built of rows. -/
import Derived.Test.YtanpdkllnmeenaaAmEff
namespace Go.Proofs.Ytanpdkllnmeenaa.Am
open Go Go.RowKit
set_option linter.unusedVariables false
set_option linter.unusedSectionVars false
set_option linter.unusedSimpArgs false
section
variable {P : Program} {C : Ctx} {F F' : Nat → Prop} {w w' : World} {β β' : Bd} {H H' G : Heap}
variable {L : Nat → Prop} {w0 : World} {F0 : Nat → Prop} {n : Nat} {sl : List Slot} {env : List AV} {a : Act} {o : Oper} {v : AV} {base : Nat → Prop}
theorem RowC.one {α : Type} {R : α → List Value → Prop} {k : Nat} {xs : List α} {cells : List Value} (hR : ∀ x cs, R x cs → ∀ u ∈ cs, u.oneCell' = true) (r : RowC R k xs cells) (hk : 0 < k) : ∀ u ∈ cells, u.oneCell' = true := by
  intro u hu
  obtain ⟨j, hj, rfl⟩ := List.mem_iff_getElem.1 hu
  have h1 := r.1
  have hq : j / k < xs.length := by rw [Nat.div_lt_iff_lt_mul hk]; omega
  have h2 := r.2 (j / k) _ (List.getElem?_eq_getElem hq)
  refine hR _ _ h2 _ ?_
  have hm : j % k < k := Nat.mod_lt _ hk
  have e : ((cells.drop (j / k * k)).take k)[j % k]? = some cells[j] := by
    rw [List.getElem?_take_of_lt hm, List.getElem?_drop, show j / k * k + j % k = j by rw [Nat.mul_comm]; exact Nat.div_add_mod j k, List.getElem?_eq_getElem hj]
  exact List.mem_of_getElem? e
theorem slot_cells {l : Bool} {e : TypeId} {t : Ty} {xs : List t.den} {u : Value} (hmp : t.isMp = false) (hs : SlotOk base F w β H (.row l e t xs) u) :
    ∃ A k, u = .slice A xs.length k ∧ xs.length ≤ k ∧ (xs = [] ∨ ∃ g o cells, A = some ⟨g, o, none⟩ ∧ RowC (RepC F w t) t.size xs cells ∧ w.rangeAt g o cells) := by
  cases l with
  | true =>
    obtain ⟨⟨cells, ho, hr⟩, _⟩ := hs
    rw [owns_sl hmp] at ho
    obtain ⟨hl, h | ⟨g', o', cap, cur, hv, hh, hn, hm, hz, ht⟩⟩ := ho
    · exact ⟨none, 0, by rw [h.1, h.2], by omega, .inl (List.length_eq_zero_iff.1 h.2)⟩
    · refine ⟨_, _, hv, hn, .inr ⟨g', o', cells, rfl, hr, fun j x hx => ?_⟩⟩
      rw [← ht, List.getElem?_take] at hx
      split at hx
      · simp only [World.cell?, hh]
        rw [List.getElem?_drop, Array.getElem?_toList] at hx
        simpa using hx
      · simp at hx
  | false =>
    obtain ⟨A, cap, h1, h2, h3⟩ := hs
    rw [hdr_sl hmp] at h1
    simp at h1
    exact ⟨A, cap, h1, h2, h3.imp And.left fun ⟨g, o, cells, hA, _, hr, hrange⟩ => ⟨g, o, cells, hA, hr, (lies_sl hmp).1 hrange⟩⟩
theorem row_cells (gd : Good L w0 w F0 F β H) {b : CV} {x : Value} {r : (t : Ty) × List t.den} (hr : RepV F w β H b x) (h : rowOf H b = some r) (hmp : r.1.isMp = false) :
    ∃ A k, x = .slice A r.2.length k ∧ r.2.length ≤ k ∧ (r.2 = [] ∨ ∃ g o cells, A = some ⟨g, o, none⟩ ∧ RowC (RepC F w r.1) r.1.size r.2 cells ∧ w.rangeAt g o cells) := by
  unfold rowOf at h
  split at h
  · injection h with h
    subst h
    exact slot_cells (base := fun _ => True) (l := false) (e := 0) (β := β) (H := H) hmp hr
  · split at h
    · rename_i hs
      injection h with h
      subst h
      have hG := slotAt_row hs (by simp)
      simp only [RepV, hG] at hr
      exact slot_cells hmp (gd.slot hr.1 hG)
    · simp at h
  · rename_i hh p l
    split at h
    · rename_i lv e t xs hs
      injection h with h
      subst h
      have hG := slotAt_row hs (by simp)
      simp only [RepV, hG] at hr
      obtain ⟨⟨_, r1⟩, A, c, r2, r3, r4, _⟩ := hr
      have hlen : ((xs.drop p).take l).length = l := by rw [List.length_take, List.length_drop]; omega
      refine ⟨A, c, by rw [r2]; simp only [hlen], by simp only [hlen]; omega, ?_⟩
      rcases r4 with r4 | ⟨g, q, n', k', r4, r5⟩
      · exact .inl (List.length_eq_zero_iff.1 (by simp only [hlen]; omega))
      · obtain ⟨A', k2, e1, e2, e3⟩ := slot_cells hmp (gd.slot r4 hG)
        simp at e1
        obtain ⟨rfl, rfl, rfl⟩ := e1
        rcases e3 with e3 | ⟨g2, o2, cells, h1, h3, h4⟩
        · exact .inl (by rw [e3]; simp)
        · simp at h1
          obtain ⟨rfl, rfl⟩ := h1
          exact .inr ⟨g, _, _, r5, h3.sub p l, range_cut h4 _ _⟩
    · simp at h
  · simp at h
/-! ### A map is written -/
theorem one_cells {x : Value} (h : x.oneCell' = true) : x.cells.toList = [x] := by cases x <;> first | rfl | simp [Value.oneCell'] at h
theorem setAt_heap {g : Nat} {x y : Obj} (h : w.heap[g]? = some x) : ({ w with heap := w.heap.setIfInBounds g y } : World).heap[g]? = some y := by
  have := (Array.getElem?_eq_some_iff.1 h).1
  simp [this]
theorem setOb_ne {g k : Nat} {y : Obj} (h : k ≠ g) : ({ w with heap := w.heap.setIfInBounds g y } : World).heap[k]? = w.heap[k]? := by
  simp only
  rw [Array.getElem?_setIfInBounds_ne (by omega)]
theorem setOb_below {g b : Nat} {y : Obj} (h : b ≤ g) : Below b w { w with heap := w.heap.setIfInBounds g y } := ⟨rfl, rfl, rfl, by simp, fun k hk => setOb_ne (by omega)⟩
theorem run_setMap {g n : Nat} {arr : Array MapEntry} (o : Obj) (h : w.heap[g]? = some (.map arr n)) : (setObj g o).run P w = .ok () { w with heap := w.heap.setIfInBounds g o } := by
  simp [setObj, Sem.run, h]
theorem same_int {k : IntKind} {m : Int} : Instr.sameBits 10000 (.int k m) (.int k m) = true := by
  show Instr.sameBits (9999 + 1) _ _ = true
  unfold Instr.sameBits
  simp
theorem all2_push {α γ : Type} {R : α → γ → Prop} {l : List α} {m : List γ} {a : α} {b : γ} (h : All2 R l m) (r : R a b) : All2 R (l ++ [a]) (m ++ [b]) := h.append (.cons r .nil)
/-- A store into a map. -/
theorem run_mapSet {t kt vt : TypeId} {k : IntKind} {v : Ty} {i : TypeInfo} {z : Value} {m : Int} {y : v.den} {x : Value} (ht : P.underlying t = some (.map kt vt)) (mk : MOk P kt vt k v i z) {g : Nat} {arr : Array MapEntry} {xs : List (Unit × Int × v.den)}
    (ha : w.heap[g]? = some (.map arr arr.size)) (hm : MapR F w k v arr xs) (hx : ValR F w v x y) : ∃ arr' : Array MapEntry, (Instr.mapUpdate t (.map (some g)) (.int k m) x).run P w = .ok () { w with heap := w.heap.setIfInBounds g (.map arr' arr'.size) } ∧ MapR F w k v arr' (mset xs m y) := by
  rcases find_ok (m := m) 0 hm.2 with ⟨e1, e2, _, e4⟩ | ⟨e1, j, e, x0, a1, a2, a3, a4, a5, _, a7⟩
  · refine ⟨arr.push { key := .int k m, val := x, born := arr.size }, ?_, ?_⟩
    · simp [Instr.mapUpdate, run_underlying ht, run_getObj ha, run_checkKey (m := m) mk.key, run_findKey (m := m) mk.key e2, run_setMap _ ha]
    · rw [e4]
      refine ⟨fun i e he => ?_, ?_⟩
      · rw [Array.getElem?_push] at he
        split at he
        · rename_i hi
          injection he with he
          subst he
          exact hi.symm
        · exact hm.1 i e he
      · rw [Array.toList_push]
        exact all2_push hm.2 ⟨rfl, hx⟩
  · have he : arr[j]? = some e := by rwa [Array.getElem?_toList] at a1
    have hj := (Array.getElem?_eq_some_iff.1 he).1
    refine ⟨arr.modify j fun e => { e with key := .int k m, val := x }, ?_, ?_⟩
    · rw [Nat.zero_add] at a5
      have hke : Instr.sameBits 10000 (((arr[j]?).map (·.key)).getD (.int k m)) (.int k m) = true := by rw [he]; simp only [Option.map_some, Option.getD_some]; rw [a3.1, a4]; exact same_int
      simp [Instr.mapUpdate, run_underlying ht, run_getObj ha, run_checkKey (m := m) mk.key, run_findKey (m := m) mk.key a5, Instr.keyThatStays, hke, run_setMap _ ha]
    · rw [a7]
      refine ⟨fun i e' he' => ?_, ?_⟩
      · rw [Array.getElem?_modify] at he'
        split at he'
        · rename_i hi
          subst hi
          rw [he] at he'
          simp at he'
          subst he'
          exact hm.1 j e he
        · exact hm.1 i e' he'
      · have : (arr.modify j fun e => { e with key := .int k m, val := x }).toList = arr.toList.set j { e with key := .int k m, val := x } := by
          apply List.ext_getElem?
          intro q
          rw [Array.getElem?_toList, Array.getElem?_modify]
          by_cases hq : j = q
          · subst hq
            rw [if_pos rfl, he, List.getElem?_set_self (by simpa using hj)]
            rfl
          · rw [if_neg hq, List.getElem?_set_ne hq, Array.getElem?_toList]
        rw [this]
        exact hm.2.set ⟨rfl, hx⟩ j
section ops
variable (gd : Good L w0 w F0 F β H) (hE : ∀ x ∈ o.op.operands, OpOk F w β H env a x) (cx : CtxOk P C)
include gd hE cx
theorem e_map {t : TypeId} {m key x : Operand} (ho : o.op = .mapUpdate t m key x ∨ o.op = .insert t m key x) (h : mapK C env H t m key x = some H') (hv : v = .undef) : EPost (L := L) P w0 w F0 F β H o a v H' := by
  subst hv
  simp only [mapK, Option.bind_eq_some_iff] at h
  obtain ⟨T, hT, c, h1, j, h2, q, h3, u, h4, us, h5, hh, hc, h6⟩ := h
  have hc := asRef_ok hc
  subst hc
  obtain ⟨d, it, z, tk⟩ := cx.ty _ _ hT
  have hmem : ∀ y ∈ [m, key, x], OpOk F w β H env a y := fun y hy => hE y (by rcases ho with e | e <;> rw [e] <;> simp [Op.operands] at hy ⊢ <;> exact hy)
  have rm := (hmem m (by simp)).cell h1
  have ek : a.eval key = .int q.1 q.2 := (hmem key (by simp)).cell (c := .int q.1 q.2) (by rw [h2, intOf_some h3])
  have rx := hmem x (by simp) _ h4
  have hrun : ∀ {w'}, (Instr.mapUpdate t (a.eval m) (a.eval key) (a.eval x)).run P w = .ok () w' → (execOp a.eval o).run P w = .ok .skip w' := fun {w'} h => by
    rcases ho with e | e <;> simp [execOp, e, h]
  simp only [storeM, Option.bind_eq_some_iff] at h6
  obtain ⟨p, hp, h7⟩ := h6
  split at h7
  case h_2 => simp at h7
  rename_i e k v0 xs hs
  split at h7
  case isFalse => simp at h7
  rename_i hc
  obtain ⟨rfl, hk, hag⟩ := hc
  simp only [Option.map_eq_some_iff] at h7
  obtain ⟨y, hy, rfl⟩ := h7
  obtain ⟨F1, g1, k1, r2⟩ := frzL_ok (cs' := p.1) (H' := p.2) gd (cells_ok h5 rx) hp
  have hH2 := slotAt_row hs (by simp)
  have rm1 := rm.mono k1
  simp only [RepV, hH2] at rm1
  obtain ⟨⟨cells, ho', hrow⟩, hnF⟩ := g1.slot rm1.1 hH2
  obtain ⟨g, arr, hu, harr, hm⟩ := own_map ho' hrow
  obtain ⟨kt, vt, i', z', hd, mk⟩ := tk.mp _ _ rfl
  have hry := rep_unflat1 hy r2
  have hval : ValR F1 w v0 (a.eval x) y := by
    unfold ValR
    cases u with
    | one c =>
      have hf : v0.isAgg = false := by rw [← hag]; rfl
      simp only [hf]
      have h1 := RepV.one rx
      rw [one_cells h1] at hry
      exact hry
    | agg cs =>
      have hf : v0.isAgg = true := by rw [← hag]; rfl
      simp only [hf]
      obtain ⟨ws, hws, _⟩ := rx
      rw [hws] at hry ⊢
      exact ⟨ws, rfl, hry⟩
    | _ => simp [AV.cells] at h5
  obtain ⟨arr', hr', hm'⟩ := run_mapSet (m := q.2) (by rw [← hd]; exact tk.und) mk harr hm hval
  obtain ⟨g2, k2⟩ := good_write (w' := { w with heap := w.heap.setIfInBounds g (.map arr' arr'.size) }) g1 hH2 rfl rm1.1 (g := g) (by rw [hu]; rfl) (s' := .row true e (.mpe k v0) (mset xs q.2 y)) ⟨rfl, fun h => by simp [Ty.isMp] at h, id⟩ (setOb_below (Nat.zero_le _)) (by simp) (fun k hk => setOb_ne hk) fun kp => by
    have hm2 : MapR F1 { w with heap := w.heap.setIfInBounds g (.map arr' arr'.size) } k v0 arr' (mset xs q.2 y) := by
      refine ⟨hm'.1, hm'.2.mono fun e x hx => ⟨hx.1, ?_⟩⟩
      have h2 := hx.2
      unfold ValR at h2 ⊢
      cases hv : v0.isAgg with
      | true =>
        simp only [hv] at h2 ⊢
        obtain ⟨b, e1, e2⟩ := h2
        exact ⟨b, e1, e2.mono kp.f kp.w⟩
      | false =>
        simp only [hv] at h2 ⊢
        exact h2.mono kp.f kp.w
    obtain ⟨cells', hl, hrw⟩ := map_lies (o := 0) (setAt_heap harr) hm2
    refine ⟨⟨cells', ?_, hrw⟩, hnF⟩
    simp only [OwnsT, Ty.isMp]
    exact ⟨g, hu, hl⟩
  exact ⟨_, _, F1, β, hrun (by rw [hu, ek, hk]; exact hr'), g2, k1.trans k2, .inr ⟨rfl, rfl⟩⟩
end ops
/-! ### append onto a row of one's own -/
section
variable {P : Program} (w : World)
theorem run_append_room_at (t ty e : TypeId) (i : TypeInfo) (ht : P.underlying t = some (.slice e)) (hi : P.info? e = some i)
    (g o sLen sCap : Nat) (cur : Array Value) (hg : w.heap[g]? = some (.cells cur e (0, 0)))
    (a : Addr) (m c : Nat) (news : List Value) (hl : news.length = m * i.size) (hnews : ∀ j u, news[j]? = some u → w.cell? (a.add j) = some u) (h1 : ∀ u ∈ news, u.oneCell' = true)
    (hroom : sLen + m ≤ sCap) (hfit : o + sLen * i.size + news.length ≤ cur.size) :
    (Builtin.append_ #[t, t] ty #[.slice (some ⟨g, o, none⟩) sLen sCap, .slice (some a) m c]).run P w =
      .ok (.slice (some ⟨g, o, none⟩) (sLen + m) sCap) (w.setRow g (cur.toList.take (o + sLen * i.size) ++ news ++ cur.toList.drop (o + sLen * i.size + news.length)).toArray) := by
  have hf := run_firstCells_some (P := P) w i.size m a m c news hl hnews
  have hst := run_storeCells_at P g (o + sLen * i.size) e news 0 cur w hg (by simpa using hfit) h1
  simp only [Nat.add_zero] at hst
  simp [Builtin.append_, run_underlying ht, sizeOf, typeInfo, hi, Builtin.lenOf, hroom, hf, Addr.add_mid, hst]
theorem run_append_at (t ty : TypeId) (e : TypeId) (i : TypeInfo) (z : Value) (size bytes : Nat) (ht : P.underlying t = some (.slice e)) (hi : P.info? e = some i) (hz : i.zero = some z)
    (hsize : i.size = size) (hby : i.bytes = bytes) (hzs : z.cells.size = size) (hsz : 0 < size)
    (v : Value) (n : Nat) (xs : List Value) (hown : ownsAt w e size v n xs)
    (a : Addr) (m c : Nat) (news : List Value) (hl : news.length = m * size) (hnews : ∀ j u, news[j]? = some u → w.cell? (a.add j) = some u) (h1 : ∀ u ∈ news, u.oneCell' = true)
    (hm0 : 0 < m) (h63 : n + m ≤ maxLen) (hbytes : (n + m) * bytes ≤ 140737488355328) :
    ∃ v' w', (Builtin.append_ #[t, t] ty #[v, .slice (some a) m c]).run P w = .ok v' w' ∧ ownsAt w' e size v' (n + m) (xs ++ news) ∧ w.grownBy w' v.ownBlock ∧ (∀ g, blk v' = some g → v.ownBlock = some g ∨ w.heap.size ≤ g) := by
  subst hsize
  subst hby
  have hsmall : n + m ≤ 9223372036854775807 := by simp only [maxLen] at h63; omega
  have hlen : (xs ++ news).length = (n + m) * i.size := by rw [List.length_append, hown.1, hl, Nat.add_mul]
  have grown : ∀ (old : Nat), old < n + m → ∀ (row : Option Nat),
      (w.drew.alloc (.cells (xs.toArray ++ news.toArray ++ Builtin.zeroCells z.cells (grownCap w (n + m) old e - (n + m))) e)).ownsRow 0 e i.size
        (.slice (some ⟨w.heap.size, 0, none⟩) (n + m) (grownCap w (n + m) old e)) (n + m) (xs ++ news) ∧
      w.grownBy (w.drew.alloc (.cells (xs.toArray ++ news.toArray ++ Builtin.zeroCells z.cells (grownCap w (n + m) old e - (n + m))) e)) row := by
    intro old ho row
    have hge := grownCap_ge w (n + m) old e
    have hcm : grownCap w (n + m) old e ≤ maxLen := grownCap_le_maxLen w (n + m) old e h63
    refine ⟨⟨hlen, .inr ⟨w.heap.size, _, _, rfl, Nat.zero_le _, Go.heap_alloc_new w.drew _, hge, hcm, ?_, ?_⟩⟩, ⟨rfl, rfl, rfl, by simp, fun k hk _ => heap_alloc_old w.drew _ hk⟩⟩
    · simp only [Array.size_append, List.size_toArray, size_zeroCells, hzs, hown.1, hl, ← Nat.add_mul]
      congr 1
      omega
    · simp only [Array.toList_append, List.append_assoc]
      rw [← List.append_assoc, ← hlen]
      exact List.take_left
  have new : ∀ g : Nat, blk (.slice (some ⟨w.heap.size, 0, none⟩) (n + m) 0) = some g → w.heap.size ≤ g := fun g h => by simp [blk] at h; omega
  rcases hown.2 with ⟨rfl, rfl⟩ | ⟨g, o, cap, cur, rfl, hg, hnc, hcm, hcs, htake⟩
  · have hx : xs = [] := List.eq_nil_of_length_eq_zero (by simpa using hown.1)
    subst hx
    have hr := run_append_nil (P := P) w t ty e i z ht hi hz a m c news hl hnews (by omega) (by omega) (by have hb := hbytes; simp only [Nat.zero_add] at hb; omega)
    have hgr := grown 0 (by omega) (Value.ownBlock (.slice none 0 0))
    simp only [Nat.zero_add, List.nil_append, Array.empty_append] at hgr ⊢
    exact ⟨_, _, hr, own_of hgr.1, hgr.2, fun g h => .inr (by simp [blk] at h; omega)⟩
  · by_cases hroom : n + m ≤ cap
    · have hmul : (n + m) * i.size ≤ cap * i.size := Nat.mul_le_mul_right _ hroom
      rw [Nat.add_mul] at hmul
      have hfit : o + n * i.size + news.length ≤ cur.size := by rw [hl]; omega
      have hr := run_append_room_at (P := P) w t ty e i ht hi g o n cap cur hg a m c news hl hnews h1 hroom hfit
      have hdp := drop_patch (c := cur.toList) (L := news) (o := o) (a := n * i.size) (by simp; omega)
      refine ⟨_, _, hr, ⟨hlen, .inr ⟨g, o, cap, _, rfl, setRow_heap w g cur _ e _ hg, hroom, hcm, ?_, ?_⟩⟩, ⟨rfl, rfl, rfl, by simp, fun k _ hk => setRow_other w g k _ (fun e => hk (by simp [Value.ownBlock, e]))⟩, fun g' h => .inl (by simp [blk] at h; simp [Value.ownBlock, h])⟩
      · simp only [List.size_toArray, List.length_append, List.length_take, List.length_drop, Array.length_toList]
        omega
      · simp only [hdp]
        rw [htake, ← hlen]
        exact List.take_left
    · have holds : ∀ j u, xs[j]? = some u → w.cell? ((⟨g, o, none⟩ : Addr).add j) = some u := fun j u hu => by
        rw [Addr.add_mid, cell_of_row w g (o + j) cur e (0, 0) hg]
        rw [← htake, List.getElem?_take] at hu
        split at hu
        · rw [List.getElem?_drop, Array.getElem?_toList] at hu
          exact hu
        · cases hu
      have hr := run_append_grow (P := P) w t ty e i z ht hi hz ⟨g, o, none⟩ n cap xs hown.1 holds a m c news hl hnews (by omega) (by omega) (growslice_fits (by omega) hbytes)
      have hgr := grown cap (by omega) (Value.ownBlock (.slice (some ⟨g, o, none⟩) n cap))
      exact ⟨_, _, hr, own_of hgr.1, hgr.2, fun g h => .inr (by simp [blk] at h; omega)⟩
end
theorem blk_own {u : Value} {A : Option Addr} {k c : Nat} (h : u = .slice A k c) : blk u = u.ownBlock := by subst h; cases A <;> rfl
section ops
variable (gd : Good L w0 w F0 F β H) (hE : ∀ x ∈ o.op.operands, OpOk F w β H env a x) (cx : CtxOk P C)
include gd hE cx
theorem append_run {ty : TypeId} {t : Ty} {xs ys : List t.den} {u x : Value} {d : TypeDesc} {it : TypeInfo} {z' : Value} (tk : TOk P C ty (.sl t) d it z') (hmp : t.isMp = false) {cells : List Value} (hown : ownsAt w (C.el t) t.size u xs.length cells) (hrow : RowC (RepC F w t) t.size xs cells)
    {A : Option Addr} {k : Nat} (hx : x = .slice A ys.length k) (hA : ys = [] ∨ ∃ g o cells, A = some ⟨g, o, none⟩ ∧ RowC (RepC F w t) t.size ys cells ∧ w.rangeAt g o cells) (hlen : (xs ++ ys).length < 1099511627776) (ty' : TypeId) :
    ∃ u' w' news, (Builtin.append_ #[ty, ty] ty' #[u, x]).run P w = .ok u' w' ∧ ownsAt w' (C.el t) t.size u' (xs ++ ys).length (cells ++ news) ∧ RowC (RepC F w t) t.size ys news ∧ w.grownBy w' u.ownBlock ∧ (∀ g, blk u' = some g → u.ownBlock = some g ∨ w.heap.size ≤ g) := by
  obtain ⟨hd, ie, z, ek⟩ := tk.sl _ rfl hmp
  subst hd
  have hb := ek.bytes
  obtain ⟨A0, c0, hu, hle⟩ : ∃ A c, u = .slice A xs.length c ∧ xs.length ≤ c := by
    obtain ⟨_, h | ⟨g, o, cap, cur, h, _, h2, _⟩⟩ := hown
    · exact ⟨none, 0, by rw [h.1, h.2], by omega⟩
    · exact ⟨_, cap, h, h2⟩
  rcases Nat.eq_zero_or_pos ys.length with hz | hpos
  · have hy : ys = [] := List.length_eq_zero_iff.1 hz
    subst hy
    have src : Src P ie.size ty x 0 [] w := by
      refine ⟨.inl ⟨_, tk.und⟩, fun w' => by rw [hx]; rfl, ?_, ?_, by simp, fun u hu => by simp at hu⟩
      · rw [hx]; cases A with
        | none => rfl
        | some ad => simp [Builtin.firstCells, loadCells, loadCellsFrom]
      · rw [hx]; cases A with
        | none => rfl
        | some ad => simp [Builtin.firstCells, loadCells, loadCellsFrom]
    have := run_append_nothing w ty ty ty' (C.el t) ie tk.und ek.info A0 xs.length c0 hle x src
    refine ⟨u, w, [], by rw [hu]; exact this, by simpa using hown, ⟨by simp, fun i x h => by simp at h⟩, ⟨rfl, rfl, rfl, Nat.le_refl _, fun _ _ _ => rfl⟩, fun g hg => .inl ?_⟩
    rw [← blk_own hu]; exact hg
  · rcases hA with hA | ⟨g, off, news, rfl, hrn, hrange⟩
    · subst hA; simp at hpos
    · have h1 := hrn.one (fun _ _ h => h.one) ek.pos
      rw [List.length_append] at hlen
      have hbytes : (xs.length + ys.length) * ie.bytes ≤ 140737488355328 := by
        have : (xs.length + ys.length) * ie.bytes ≤ (xs.length + ys.length) * 64 := Nat.mul_le_mul_left _ hb
        omega
      obtain ⟨u', w', hr, ho, hg, hor⟩ := run_append_at w ty ty' (C.el t) ie z t.size ie.bytes tk.und ek.info ek.zero ek.size rfl ek.zsize ek.pos u xs.length cells hown ⟨g, off, none⟩ ys.length k news hrn.1 (fun j u hu => by rw [Addr.add_mid]; exact hrange j u hu) h1 hpos (by simp [maxLen]; omega) hbytes
      exact ⟨u', w', news, by rw [hx]; exact hr, by rw [List.length_append]; exact ho, hrn, hg, hor⟩
theorem e_append {t1 : TypeId} {t : Ty} {s x : Operand} {args : Array Operand} {ats : Array TypeId} {h : Nat} {b : CV} {xs ys : List t.den} {r : (t : Ty) × List t.den} (ho : o.op = .call { callee := .builtin .append, args, argTypes := ats }) (ha : args.toList = [s, x]) (hat : ats.toList = [t1, t1])
    (hT : C.ty t1 = some (.sl t)) (hmp : t.isMp = false) (h1 : oprC env s = some (.ref h)) (h2 : oprC env x = some b) (hs : slotAt H h = .row true (C.el t) t xs) (h3 : rowOf H b = some r) (h4 : castRow t r = some ys) (hlen : (xs ++ ys).length < 1099511627776)
    (hv : v = .one (.ref H.length)) (hH' : H' = (H.set h .dead) ++ [Slot.row true (C.el t) t (xs ++ ys)]) : EPost (L := L) P w0 w F0 F β H o a v H' := by
  subst hv hH'
  obtain ⟨d, it, z, tk⟩ := cx.ty _ _ hT
  have hargs : args = #[s, x] := Array.toList_inj.mp ha
  have hats : ats = #[t1, t1] := Array.toList_inj.mp hat
  subst hargs hats
  have rs := (hE s (by rw [ho]; simp [Op.operands, Call.operands])).cell h1
  have rx := (hE x (by rw [ho]; simp [Op.operands, Call.operands])).cell h2
  have hH := slotAt_row hs (by simp)
  simp only [RepV, hH] at rs
  obtain ⟨hb, _⟩ := rs
  obtain ⟨⟨cells, hown, hrow⟩, hnF⟩ := gd.slot hb hH
  rw [owns_sl hmp] at hown
  have hrm : r.1.isMp = false := by
    unfold castRow at h4
    split at h4
    · rename_i e; rw [e]; exact hmp
    · simp at h4
  obtain ⟨A, k, hxv, hk, hA⟩ := row_cells gd rx h3 hrm
  unfold castRow at h4
  split at h4
  case isFalse => simp at h4
  rename_i hr1
  injection h4 with h4
  rcases r with ⟨t', ys'⟩
  simp at hr1
  subst hr1
  simp at h4
  subst h4
  obtain ⟨u', w', news, hrun, hown', hrn, hg, hblk⟩ := append_run gd hE cx tk hmp hown hrow (ys := ys') hxv hA hlen o.type
  have hexec : (execOp a.eval o).run P w = .ok (.value u') w' := by
    simp [execOp, ho, resolve, invoke, builtin, hrun]
  have hsl : ∃ A c, a.eval s = .slice A xs.length c := by
    obtain ⟨_, h | ⟨g, o, cap, cur, h, _⟩⟩ := hown
    · exact ⟨none, 0, by rw [h.1, h.2]⟩
    · exact ⟨_, _, h⟩
  obtain ⟨A0, c0, hsl⟩ := hsl
  have hbo := blk_own hsl
  have hFne : ∀ g, F g → some g ≠ (a.eval s).ownBlock := fun g hg e => (hnF g (by rw [hbo]; exact e.symm)).2 hg
  have hFw : ∀ g, F g → w'.heap[g]? = w.heap[g]? := fun g hg' => hg.block g (gd.fsz g hg') (hFne g hg')
  have hlast : ((H.set h .dead) ++ [Slot.row true (C.el t') t' (xs ++ ys')])[H.length]? = some (.row true (C.el t') t' (xs ++ ys')) := by
    rw [List.getElem?_append_right (by simp)]; simp
  have hold : ∀ {q : Nat} {s' : Slot}, q ≠ h → H[q]? = some s' → ((H.set h .dead) ++ [Slot.row true (C.el t') t' (xs ++ ys')])[q]? = some s' := fun {q s'} hq hs' => by
    have := (List.getElem?_eq_some_iff.1 hs').1
    rw [List.getElem?_append_left (by simpa using this), set_ne hq]; exact hs'
  have hdead : ((H.set h .dead) ++ [Slot.row true (C.el t') t' (xs ++ ys')])[h]? = some .dead := by
    have := (List.getElem?_eq_some_iff.1 hH).1
    rw [List.getElem?_append_left (by simpa using this)]; exact set_at hH
  have hext : ∀ q u, β q = some u → ext β H.length [u'] q = some u := fun q u => ext_old fun j _ => free_end gd j
  have kp : Keeps F F w w' β (ext β H.length [u']) H ((H.set h .dead) ++ [Slot.row true (C.el t') t' (xs ++ ys')]) := by
    refine ⟨fun _ h => h, hFw, hext, fun q s' hs' => ?_⟩
    by_cases hq : q = h
    · subst hq; exact ⟨_, hdead, by cases s' <;> trivial⟩
    · exact ⟨s', hold hq hs', like_refl _⟩
  have inv : ∀ {q : Nat} {s' : Slot} {u : Value}, β q = some u → ((H.set h .dead) ++ [Slot.row true (C.el t') t' (xs ++ ys')])[q]? = some s' → s'.isLive = true → q ≠ h ∧ H[q]? = some s' := fun {q s' u} hb' hs' hl' => by
    by_cases hq : q = h
    · subst hq; rw [hdead] at hs'; injection hs' with hs'; subst hs'; simp [Slot.isLive] at hl'
    · obtain ⟨s2, e2, _⟩ := gd.dom _ _ hb'
      have := hold hq e2
      rw [hs'] at this
      injection this with this
      subst this
      exact ⟨hq, e2⟩
  refine ⟨_, w', F, _, hexec, ⟨?_, fun g hg' => Nat.lt_of_lt_of_le (gd.fsz g hg') hg.size, gd.f0, gd.f1, fun q u hu => ?_, fun q q' s1 s2 u1 u2 g e1 e2 l1 l2 b1 b2 g1 g2 => ?_⟩, kp, .inl ⟨u', rfl, ?_⟩⟩
  · exact gd.below.write hg.os hg.tape hg.output hg.size fun q hq hn => hg.block q hq fun e => hn ((gd.slot hb hH).lt rfl (g := q) (by rw [hbo]; exact e.symm)).1
  · rcases ext_some hu with ⟨j, rfl, hj⟩ | hu'
    · cases j with
      | zero =>
        simp at hj
        subst hj
        refine ⟨_, hlast, ⟨⟨_, (owns_sl hmp).2 hown', (hrow.append hrn).mono fun _ _ => RepC.mono (fun _ h => h) hFw⟩, fun g hg' => ?_⟩⟩
        rcases hblk g hg' with e | e
        · exact hnF g (by rw [hbo]; exact e)
        · exact ⟨.inl (Nat.le_trans gd.below.size e), fun hF => by have := gd.fsz g hF; omega⟩
      | succ j => simp at hj
    · by_cases hq : q = h
      · subst hq; exact ⟨_, hdead, trivial⟩
      · obtain ⟨s1, e1, e2⟩ := gd.dom q u hu'
        refine ⟨s1, hold hq e1, e2.keep kp fun hl' g hg' => ⟨hg.block g (e2.lt hl' hg').2.1 fun e => hq ?_, id⟩⟩
        exact gd.sep q h _ _ u _ g e1 hH hl' rfl hu' hb hg' (by rw [hbo]; exact e.symm)
  · rcases ext_some b1 with ⟨j, rfl, hj⟩ | b1
    · rcases ext_some b2 with ⟨j', rfl, hj'⟩ | b2
      · have h1 := (List.getElem?_eq_some_iff.1 hj).1
        have h2 := (List.getElem?_eq_some_iff.1 hj').1
        simp at h1 h2
        omega
      · obtain ⟨hq, e3⟩ := inv b2 e2 l2
        cases j with
        | succ j => simp at hj
        | zero =>
          simp at hj
          subst hj
          rcases hblk g g1 with e | e
          · exact absurd (gd.sep _ h _ _ _ _ g e3 hH l2 rfl b2 hb g2 (by rw [hbo]; exact e)) hq
          · have := ((gd.slot b2 e3).lt l2 g2).2.1; omega
    · obtain ⟨hq, e3⟩ := inv b1 e1 l1
      rcases ext_some b2 with ⟨j', rfl, hj'⟩ | b2
      · cases j' with
        | succ j => simp at hj'
        | zero =>
          simp at hj'
          subst hj'
          rcases hblk g g2 with e | e
          · exact absurd (gd.sep _ h _ _ _ _ g e3 hH l1 rfl b1 hb g1 (by rw [hbo]; exact e)) hq
          · have := ((gd.slot b1 e3).lt l1 g1).2.1; omega
      · obtain ⟨hq', e4⟩ := inv b2 e2 l2
        exact gd.sep q q' s1 s2 u1 u2 g e3 e4 l1 l2 b1 b2 g1 g2
  · simp only [RepA, RepV, hlast]
    refine ⟨by have := ext_new (β := β) (n := H.length) (us := [u']) (j := 0) (u := u') rfl; simpa using this, ?_⟩
    obtain ⟨_, h | ⟨g, o, cap, cur, h, _⟩⟩ := hown'
    · rw [h.1]; rfl
    · rw [h]; rfl
end ops
theorem fillF_ok {e : Ty} {k : Nat} :
    ∀ (parts : List (Nat × Operand)) (xs : List e.den) (cells : Array Value) {xs' : List e.den} {F : Nat → Prop} {H H' : Heap}, Good L w0 w F0 F β H → (∀ q ∈ parts, OpOk F w β H env a q.2) → foldF e env parts xs H = some (xs', H') → RowC (RepC F w e) e.size xs cells.toList → xs.length = k →
      ∃ F' cells', Good L w0 w F0 F' β H' ∧ Keeps F F' w w β β H H' ∧ Instr.fill (fun i => some (i * e.size, e.size)) cells (parts.map fun q => (q.1, a.eval q.2)) = some cells' ∧ RowC (RepC F' w e) e.size xs' cells'.toList ∧ xs'.length = k
  | [], xs, cells, xs', F, H, H', gd, _, h, r, hk => by
    simp [foldF] at h
    obtain ⟨rfl, rfl⟩ := h
    exact ⟨F, cells, gd, ⟨fun _ h => h, fun _ _ => rfl, fun _ _ h => h, fun h s hs => ⟨s, hs, like_refl s⟩⟩, rfl, r, hk⟩
  | (i, x) :: rest, xs, cells, xs', F, H, H', gd, hE, h, r, hk => by
    simp only [foldF, Option.bind_eq_some_iff] at h
    obtain ⟨v, h2, us, h3, p, hp, y, h4, h5⟩ := h
    split at h5
    case isFalse => simp at h5
    rename_i hi
    obtain ⟨F1, g1, k1, r1⟩ := frzL_ok (cs' := p.1) (H' := p.2) gd (cells_ok h3 (hE (i, x) (by simp) _ h2)) hp
    have hx := rep_unflat1 h4 r1
    have hl := hx.len
    have r0 := r.mono fun _ _ h => RepC.mono k1.f k1.w h
    have hle : i * e.size + e.size ≤ cells.size := by
      have := Nat.mul_le_mul_right e.size (show i + 1 ≤ xs.length from hi)
      have h := r.1
      rw [Nat.add_mul] at this
      simp only [Array.length_toList] at h
      omega
    have hz := zip_fold (i * e.size) (a.eval x).cells cells (by simp at hl; omega)
    have hr : RowC (RepC F1 w e) e.size (xs.set i y) ((a.eval x).cells.zipIdx.foldl (fun cs (p : Value × Nat) => cs.setIfInBounds (i * e.size + p.2) p.1) cells).toList := by
      have := r0.set hi hl hx
      rw [hz]
      simp only [Array.length_toList] at hl
      rw [hl]
      exact this
    obtain ⟨F2, cells', g2, k2, h6, h7, h8⟩ := fillF_ok rest _ _ g1 (fun q hq v hv => (hE q (by simp [hq]) v hv).mono k1) h5 hr (by simpa using hk)
    refine ⟨F2, cells', g2, k1.trans k2, ?_, h7, h8⟩
    simp only [Array.length_toList] at hl
    simp only [List.map_cons, Instr.fill]
    rw [if_neg (by simp; omega)]
    exact h6
section ops
variable (gd : Good L w0 w F0 F β H) (hE : ∀ x ∈ o.op.operands, OpOk F w β H env a x) (cx : CtxOk P C)
include gd hE cx
theorem run_buildSlice' {ty : TypeId} {t : Ty} {len : Nat} {parts : Array (Nat × Operand)} {d : TypeDesc} {it : TypeInfo} {z' : Value} (tk : TOk P C ty (.sl t) d it z') (hmp : t.isMp = false) {ie : TypeInfo} {z : Value} (ek : EOk P (C.el t) t ie z) (ho : o.op = .buildSlice ty len parts) (h2 : len * t.size ≤ 16777216) {cells' : Array Value}
    (hf : Instr.fill (fun i => some (i * t.size, t.size)) (madeCells z.cells (len * t.size)) (parts.toList.map fun q => (q.1, a.eval q.2)) = some cells') :
    (execOp a.eval o).run P w = .ok (.value (.slice (some ⟨w.heap.size, 0, none⟩) len len)) (w.alloc (.cells cells' (C.el t))) := by
  obtain ⟨hd, _⟩ := tk.sl _ rfl hmp
  subst hd
  have hsz : (sizeOf (C.el t)).run P w = .ok t.size w := by simp [sizeOf, run_typeInfo w ek.info, ek.size]
  have hle : ¬ (2 ^ 24 < len * t.size) := by omega
  have e0 : (parts.map fun q => (q.1, a.eval q.2)).toList = parts.toList.map fun q => (q.1, a.eval q.2) := by simp
  by_cases hz : len * t.size = 0
  · have hm : (Array.range (len * t.size)).map (fun i => (#[] : Array Value)[i % (#[] : Array Value).size]!) = madeCells z.cells (len * t.size) := by rw [hz]; simp [madeCells]
    have hf' := hf
    rw [← hm, ← e0] at hf'
    simp only [execOp, ho, Instr.buildSlice, run_underlying tk.und, hsz, Sem.run_bind, Sem.run_pure, Result.andThen_ok, Sem.run_ite, hz, if_false, if_true, gt_iff_lt, Nat.not_lt_zero]
    rw [hz] at hf'
    simp only [hf', run_newRow, Result.andThen_ok, Sem.run_pure, Sem.run_bind]
  · have hf' := hf
    rw [← e0] at hf'
    simp only [execOp, ho, Instr.buildSlice, run_underlying tk.und, hsz, Sem.run_bind, Sem.run_pure, Result.andThen_ok, Sem.run_ite, hle, if_false, hz, gt_iff_lt, run_zero ek.info ek.zero]
    simp only [madeCells] at hf'
    simp only [hf', run_newRow, Result.andThen_ok, Sem.run_pure, Sem.run_bind]
theorem e_buildSlice {ty : TypeId} {t : Ty} {len : Nat} {parts : Array (Nat × Operand)} {p : List t.den × Heap} (ho : o.op = .buildSlice ty len parts) (hT : C.ty ty = some (.sl t)) (hmp : t.isMp = false) (h1 : foldF t env parts.toList (List.replicate len t.dflt) H = some p)
    (h2 : len * t.size ≤ 16777216) (hv : v = .one (.ref p.2.length)) (hH' : H' = p.2 ++ [Slot.row true (C.el t) t p.1]) : EPost (L := L) P w0 w F0 F β H o a v H' := by
  subst hv hH'
  obtain ⟨d, i', z', tk⟩ := cx.ty _ _ hT
  obtain ⟨hd, ie, z, ek⟩ := tk.sl _ rfl hmp
  have hmem : ∀ q ∈ parts.toList, q.2 ∈ o.op.operands := fun q hq => by
    rw [ho]
    simp only [Op.operands, List.mem_toArray, List.mem_map]
    exact ⟨q, hq, rfl⟩
  obtain ⟨F1, cells', g1, k1, hf, hr, hlen⟩ := fillF_ok (xs' := p.1) (H' := p.2) parts.toList _ (madeCells z.cells (len * t.size)) gd (fun q hq => hE q.2 (hmem q hq)) h1 (row_made ek F w len) (List.length_replicate ..)
  have hrun := run_buildSlice' gd hE cx tk hmp ek ho h2 hf
  obtain ⟨g2, k2⟩ := good_more g1 [Slot.row true (C.el t) t p.1]
  have hc := hr.1
  rw [hlen] at hc
  have hm : len ≤ maxLen := by have := ek.pos; have := Nat.le_mul_of_pos_right len this; simp [maxLen]; omega
  have hlast : (p.2 ++ [Slot.row true (C.el t) t p.1])[p.2.length]? = some (.row true (C.el t) t p.1) := by rw [List.getElem?_append_right (by omega)]; simp
  have hnF : ¬ F1 w.heap.size := fun h => Nat.lt_irrefl _ (g1.fsz _ h)
  have q : QPost P (Bs L w0) F1 w β (p.2 ++ [Slot.row true (C.el t) t p.1]) p.2.length o a (.one (.ref p.2.length)) [Slot.row true (C.el t) t p.1] := by
    refine ⟨_, _, [.slice (some ⟨w.heap.size, 0, none⟩) len len], hrun, rfl, ⟨below_alloc' _, fun h => by simp at h⟩, fun q u g hu hg => ?_, fun β' hb hβ => ?_⟩
    · cases q with
      | zero => simp at hu; subst hu; simp [blk] at hg; subst hg; exact ⟨rfl, Nat.le_refl _, by simp⟩
      | succ q => simp at hu
    · have h0' := hβ 0 _ rfl
      rw [Nat.add_zero] at h0'
      refine ⟨fun q s u hs hu => ?_, ?_⟩
      · cases q with
        | zero =>
          simp at hs hu
          subst hs hu
          refine ⟨⟨cells'.toList, (owns_sl hmp).2 (own_of ⟨by rw [hlen]; exact hc, .inr ⟨w.heap.size, len, _, by rw [hlen], Nat.zero_le _, alloc_at _, by omega, hm, by simpa using hc, ?_⟩⟩), ?_⟩, fun g hg => ?_⟩
          · rw [hlen, List.take_of_length_le (by omega)]
          · exact hr.mono fun _ _ => RepC.mono (fun _ h => h) (fun g hg => (below_alloc' _).block g (g1.fsz g hg))
          · simp [blk] at hg
            subst hg
            exact ⟨.inl g1.below.size, hnF⟩
        | succ q => simp at hs
      · simp only [RepA, RepV, hlast]
        exact ⟨h0', rfl⟩
  have pre : Pre L w0 w F0 F1 β p.2 (p.2 ++ [Slot.row true (C.el t) t p.1]) p.2.length [Slot.row true (C.el t) t p.1] := ⟨g2, fun h s hs _ => by rw [List.getElem?_append_left (List.getElem?_eq_some_iff.1 hs).1]; exact hs, fun j s hs => by rw [List.getElem?_append_right (by omega)]; simpa using hs⟩
  obtain ⟨v', w', β', hrun', g3, k3, r3, _, _⟩ := good_quiet pre (fun j _ => free_end g1 j) q
  exact ⟨_, w', F1, β', hrun', g3, (k1.trans k2).trans k3, .inl ⟨v', rfl, r3⟩⟩
theorem e_range {t : TypeId} {x : Operand} {h : Nat} {e : TypeId} {k : IntKind} {v0 : Ty} {xs : List (Unit × Int × v0.den)} (ho : o.op = .range t x) (hT : C.ty t = some (.sl (.mpe k v0))) (h1 : oprC env x = some (.ref h)) (hs : slotAt H h = .row true e (.mpe k v0) xs)
    (hv : v = .one (.ref H.length)) (hH' : H' = (H.set h (.row false e (.mpe k v0) xs)) ++ [Slot.iter k v0 xs []]) : EPost (L := L) P w0 w F0 F β H o a v H' := by
  subst hv hH'
  obtain ⟨d, it, z, tk⟩ := cx.ty _ _ hT
  obtain ⟨kt, vt, i', z', hd, mk⟩ := tk.mp _ _ rfl
  have rx := (hE x (by rw [ho]; simp [Op.operands])).cell h1
  have hH := slotAt_row hs (by simp)
  simp only [RepV, hH] at rx
  obtain ⟨⟨cells, ho', hrow⟩, hB⟩ := gd.slot rx.1 hH
  obtain ⟨g, arr, hu, harr, hm⟩ := own_map ho' hrow
  obtain ⟨F1, g1, k1, _, hF1⟩ := good_freeze gd hH
  have hFg : F1 g := hF1 _ g rfl rx.1 (by rw [hu]; rfl)
  have hrun : (execOp a.eval o).run P w = .ok (.value (.pointer (some ⟨w.heap.size, 0, none⟩))) (w.alloc (.mapIter (some g) arr.size #[] arr.size)) := by
    simp [execOp, ho, hu, Instr.range, run_underlying (show P.underlying t = some (.map kt vt) by rw [← hd]; exact tk.und), run_getObj harr, newObj, Sem.run]
  have hll : (H.set h (.row false e (.mpe k v0) xs)).length = H.length := by simp
  rw [← hll]
  generalize H.set h (.row false e (.mpe k v0) xs) = H1 at g1 k1 ⊢
  obtain ⟨g2, k2⟩ := good_more g1 [Slot.iter k v0 xs []]
  have hlast : (H1 ++ [Slot.iter k v0 xs []])[H1.length]? = some (.iter k v0 xs []) := by rw [List.getElem?_append_right (by omega)]; simp
  have hnF : ¬ F1 w.heap.size := fun h => Nat.lt_irrefl _ (g1.fsz _ h)
  have hm1 : MapR F1 w k v0 arr xs := hm.mono k1.f k1.w
  have hgl : g < w.heap.size := (Array.getElem?_eq_some_iff.1 harr).1
  have q : QPost P (Bs L w0) F1 w β (H1 ++ [Slot.iter k v0 xs []]) H1.length o a (.one (.ref H1.length)) [Slot.iter k v0 xs []] := by
    refine ⟨_, _, [.pointer (some ⟨w.heap.size, 0, none⟩)], hrun, rfl, ⟨below_alloc' _, fun h => by simp at h⟩, fun q u g hu hg => ?_, fun β' hb hβ => ?_⟩
    · cases q with
      | zero => simp at hu; subst hu; simp [blk] at hg; subst hg; exact ⟨rfl, Nat.le_refl _, by simp⟩
      | succ q => simp at hu
    · have h0' := hβ 0 _ rfl
      rw [Nat.add_zero] at h0'
      refine ⟨fun q s u hs hu => ?_, ?_⟩
      · cases q with
        | zero =>
          simp at hs hu
          subst hs hu
          refine ⟨w.heap.size, g, arr, rfl, .inl g1.below.size, hnF, alloc_at _, hFg, ((below_alloc' _).block g hgl).trans harr, hm1.mono (fun _ h => h) (fun g hg => (below_alloc' _).block g (g1.fsz g hg)), fun i h => by simp at h⟩
        | succ q => simp at hs
      · simp only [RepA, RepV, hlast]
        exact ⟨h0', rfl⟩
  have pre : Pre L w0 w F0 F1 β H1 (H1 ++ [Slot.iter k v0 xs []]) H1.length [Slot.iter k v0 xs []] := ⟨g2, fun h s hs _ => by rw [List.getElem?_append_left (List.getElem?_eq_some_iff.1 hs).1]; exact hs, fun j s hs => by rw [List.getElem?_append_right (by omega)]; simpa using hs⟩
  obtain ⟨v', w', β', hrun', g3, k3, r3, _, _⟩ := good_quiet pre (fun j _ => free_end g1 j) q
  exact ⟨_, w', F1, β', hrun', g3, (k1.trans k2).trans k3, .inl ⟨v', rfl, r3⟩⟩
theorem opE_ok (h : opE C env H o = some (true, v, H')) : EPost (L := L) P w0 w F0 F β H o a v H' := by
  unfold opE at h
  split at h
  · rename_i t x y ho
    simp only [Option.bind_eq_some_iff] at h
    obtain ⟨T, hT, c, h1, q, h2, us, h3, h4⟩ := h
    split at h4
    case isFalse => simp at h4
    rename_i hl
    simp only [Option.map_eq_some_iff] at h4
    obtain ⟨H1, h5, h6⟩ := h4
    simp at h6
    obtain ⟨rfl, rfl⟩ := h6
    exact e_store gd hE cx ho hT h1 h2 h3 hl h5 rfl
  · rename_i t len parts ho
    split at h
    case h_2 => simp at h
    rename_i e hT
    simp only [Option.bind_eq_some_iff] at h
    obtain ⟨p, h1, h2⟩ := h
    split at h2
    case isFalse => simp at h2
    rename_i hl
    simp at h2
    exact e_buildSlice gd hE cx ho hT hl.2 h1 hl.1 h2.1.symm h2.2.symm
  · rename_i t x ho
    simp only [Option.bind_eq_some_iff] at h
    obtain ⟨T, hT, c, h1, hh, hc, h2⟩ := h
    have hc := asRef_ok hc
    subst hc
    split at h2
    case h_2 => simp at h2
    rename_i e k v0 xs hs
    split at h2
    case isFalse => simp at h2
    rename_i hTe
    subst hTe
    simp at h2
    exact e_range gd hE cx ho hT h1 hs h2.1.symm h2.2.symm
  · rename_i t m key x ho
    simp only [Option.map_eq_some_iff] at h
    obtain ⟨H1, h1, h2⟩ := h
    simp at h2
    obtain ⟨rfl, rfl⟩ := h2
    exact e_map gd hE cx (.inl ho) h1 rfl
  · rename_i t m key x ho
    simp only [Option.map_eq_some_iff] at h
    obtain ⟨H1, h1, h2⟩ := h
    simp at h2
    obtain ⟨rfl, rfl⟩ := h2
    exact e_map gd hE cx (.inr ho) h1 rfl
  · rename_i args ats ho
    split at h
    case h_2 => simp at h
    rename_i s x t1 t2 ha hat
    split at h
    case isFalse => simp at h
    rename_i ht
    subst ht
    simp only [Option.bind_eq_some_iff] at h
    obtain ⟨T, hT, c, h1, b, h2, h3⟩ := h
    split at h3
    case h_2 => simp at h3
    rename_i hh
    split at h3
    case h_2 => simp at h3
    rename_i i t xs hs
    split at h3
    case isFalse => simp at h3
    rename_i hc
    obtain ⟨rfl, rfl, hmp⟩ := hc
    simp only [Option.bind_eq_some_iff, Option.map_eq_some_iff] at h3
    obtain ⟨r, h4, ys, h5, h6⟩ := h3
    simp at h6
    obtain ⟨e1, rfl, rfl⟩ := h6
    exact e_append gd hE cx ho ha hat hT hmp h1 h2 hs h4 h5 (by simpa using e1) rfl rfl
  · simp at h
end ops
end
end Go.Proofs.Ytanpdkllnmeenaa.Am

/- slices.SortFunc of a row of structs, by a key that tells all apart. -/
import Derived.Test.YtanpdkllnmeenaaAmPrim
import Derived.Test.YtanpdkllnmeenaaAmKit
import Derived.Shelf.SlSortCmp.NoneTotal
namespace Go.Proofs.Ytanpdkllnmeenaa.Am
open Go Go.RowKit Go.Shelf
set_option linter.unusedVariables false
set_option linter.unusedSectionVars false
section
variable {α : Type} (key : α → Int)
def insK (x : α) : List α → List α
  | [] => [x]
  | y :: r => if key x ≤ key y then x :: y :: r else y :: insK x r
def srtK : List α → List α
  | [] => []
  | x :: r => insK key x (srtK r)
theorem insK_perm (x : α) : ∀ l : List α, (insK key x l).Perm (x :: l)
  | [] => .refl _
  | y :: r => by
    unfold insK
    split
    · exact .refl _
    · exact ((insK_perm x r).cons y).trans (.swap x y r)
theorem srtK_perm : ∀ l : List α, (srtK key l).Perm l
  | [] => .refl _
  | x :: r => (insK_perm key x _).trans ((srtK_perm r).cons x)
theorem insK_sorted (x : α) : ∀ l : List α, l.Pairwise (fun a b => key a ≤ key b) → (insK key x l).Pairwise (fun a b => key a ≤ key b)
  | [], _ => List.pairwise_singleton _ _
  | y :: r, h => by
    unfold insK
    rw [List.pairwise_cons] at h
    split
    · rename_i c
      rw [List.pairwise_cons, List.pairwise_cons]
      exact ⟨fun z hz => by
        rcases List.mem_cons.1 hz with rfl | hz
        · exact c
        · have := h.1 z hz; omega, h⟩
    · rename_i c
      rw [List.pairwise_cons]
      refine ⟨fun z hz => ?_, insK_sorted x r h.2⟩
      rcases List.mem_cons.1 ((insK_perm key x r).mem_iff.1 hz) with rfl | hz
      · omega
      · exact h.1 z hz
theorem srtK_sorted : ∀ l : List α, (srtK key l).Pairwise (fun a b => key a ≤ key b)
  | [] => .nil
  | x :: r => insK_sorted key x _ (srtK_sorted r)
theorem nodup_pw {l : List α} (h : (l.map key).Nodup) (hs : l.Pairwise (fun a b => key a ≤ key b)) : l.Pairwise (fun a b => key a < key b) := by
  have h1 := List.pairwise_map.1 (List.nodup_iff_pairwise_ne.1 h)
  exact (h1.and hs).imp fun ⟨a, b⟩ => by omega
theorem sorted_eq : ∀ {a b : List α}, a.Perm b → a.Pairwise (fun a b => key a < key b) → b.Pairwise (fun a b => key a < key b) → a = b
  | [], b, h, _, _ => (List.Perm.nil_eq h)
  | x :: a, [], h, _, _ => absurd h.length_eq (by simp)
  | x :: a, y :: b, h, h1, h2 => by
    rw [List.pairwise_cons] at h1 h2
    have hxy : x = y := by
      rcases List.mem_cons.1 (h.mem_iff.1 List.mem_cons_self) with e | hx
      · exact e
      · rcases List.mem_cons.1 (h.mem_iff.2 List.mem_cons_self) with e | hy
        · exact e.symm
        · have := h2.1 x hx
          have := h1.1 y hy
          omega
    subst hxy
    rw [sorted_eq h.cons_inv h1.2 h2.2]
def sortL (xs : List α) : Option (List α) := if (xs.map key).Nodup ∧ xs.length < 1099511627776 then some (srtK key xs) else none
end
def sortF (e : TypeId) (t : Ty) (key : t.den → Int) (f : FuncId) : Pack → Option AV
  | ⟨[.one (.ref 0), .one (.fn f' [] [])], [.row true e' t' xs], [.ref 0]⟩ => if h : t' = t then
      match Nat.beq e' e && Nat.beq f' f with
      | true => (sortL key (h ▸ xs : List t.den)).map fun ys => .tup [(false, [.own e t ys])]
      | false => none
    else none
  | _ => none
theorem sortF_eq {e : TypeId} {t : Ty} {key : t.den → Int} {f : FuncId} {xs : List t.den} : sortF e t key f ⟨[.one (.ref 0), .one (.fn f [] [])], [.row true e t xs], [.ref 0]⟩ = (sortL key xs).map fun ys => (VS.tup [(false, [.own e t])]).enc ((ys, ()), ()) := by
  unfold sortF
  simp only [dite_true, Nat.beq_refl, Bool.and_self]
  cases sortL key xs <;> rfl
open Go.Sort in
theorem sw_heap {α : Type} [Inhabited α] {enc : α → List Value} {k g o m : Nat} {w : World} {dk : Array α} {os : Array Obj} {cur : Array Value} {e : TypeId} {fr : Nat × Nat} (h : w.heap[g]? = some (.cells cur e fr)) :
    (sortWorldK enc k w g o m dk os).heap[g]? = some (.cells (putCells id o (flatK enc k dk) cur) e fr) := by
  have hlt := (Array.getElem?_eq_some_iff.1 h).1
  show (((w.heap.modify g (onCells (putCells id o (flatK enc k dk)))) ++ os)[g]?) = _
  rw [Array.getElem?_append_left (by simpa using hlt), Array.getElem?_modify, if_pos rfl, h]
  rfl
open Go.Sort in
theorem sw_other {α : Type} [Inhabited α] {enc : α → List Value} {k g o m : Nat} {w : World} {dk : Array α} {os : Array Obj} {q : Nat} (hq : q ≠ g) (hlt : q < w.heap.size) :
    (sortWorldK enc k w g o m dk os).heap[q]? = w.heap[q]? := by
  show (((w.heap.modify g (onCells (putCells id o (flatK enc k dk)))) ++ os)[q]?) = _
  rw [Array.getElem?_append_left (by simpa using hlt), Array.getElem?_modify, if_neg (fun e => hq e.symm)]
open Go.Sort in
theorem sw_size {α : Type} [Inhabited α] {enc : α → List Value} {k g o m : Nat} {w : World} {dk : Array α} {os : Array Obj} : w.heap.size ≤ (sortWorldK enc k w g o m dk os).heap.size := by
  show w.heap.size ≤ ((w.heap.modify g (onCells (putCells id o (flatK enc k dk)))) ++ os).size
  simp
/-- A comparison of two elements, in whatever memory they lie. -/
def CmpOk (P : Program) (f : FuncId) (t : Ty) (key : t.den → Int) : Prop :=
  ∀ (W : World) (F : Nat → Prop) (a b : t.den) (c1 c2 : List Value), RepC F W t a c1 → RepC F W t b c2 → Calls P f #[.agg c1.toArray, .agg c2.toArray] W fun e w' => e = .returned (.int .i64 (Lib.compareInt (key a) (key b))) ∧ ∃ q os', w' = Sort.grow (W.drewN q) os'
section
variable {P : Program} {C : Ctx} {ρ : Ren}
open Go.Sort
theorem cmp_lt (x y : Int) : decide (Lib.compareInt x y < 0) = decide (x < y) := by
  unfold Lib.compareInt
  by_cases h1 : x < y
  · simp [h1]
  · by_cases h2 : y < x <;> simp [h1, h2]
theorem cmp_swo {α : Type} (kf : α → Int) : SWO (ltOf fun i j => Lib.compareInt (kf i) (kf j)) where
  irrefl x := by unfold ltOf; rw [cmp_lt]; simp
  trans x y z h1 h2 := by unfold ltOf at *; rw [cmp_lt] at *; simp at *; omega
  ntrans x y z h1 h2 := by unfold ltOf at *; rw [cmp_lt] at *; simp at *; omega
theorem sort_ok (L : SlLaysF0.n6 P ρ) {e : TypeId} (he : ρ.t 24 = e) {t : Ty} {d : TypeDesc} {i0 i : TypeInfo} {z0 z : Value} (tk : TOk P C e t d i0 z0) (ek : EOk P e t i z) (hagg : t.isAgg = true) (hm : t.isMp = false) {key : t.den → Int} {f : FuncId} (ef : ∀ args w, (callFunc f args).run P w = .ok (.enter f args) w) (hc : CmpOk P f t key) {p : Pack} {r : AV} (h : sortF e t key f p = some r) : CallOK P (ρ.f 6) p r := by
  subst he
  unfold sortF at h
  split at h
  case h_2 => simp at h
  rename_i f' e' t' xs
  split at h
  case isFalse => simp at h
  rename_i ht
  subst ht
  split at h
  case h_2 => simp at h
  rename_i hb
  simp only [Bool.and_eq_true] at hb
  have e1 := Nat.eq_of_beq_eq_true hb.1
  have e2 := Nat.eq_of_beq_eq_true hb.2
  subst e1 e2
  simp only [Option.map_eq_some_iff] at h
  obtain ⟨ys, hs, rfl⟩ := h
  unfold sortL at hs
  split at hs
  case isFalse => simp at hs
  rename_i hcond
  obtain ⟨hnd, hlen⟩ := hcond
  injection hs with hs
  intro LN w F β args X gd hargs hX
  obtain ⟨args⟩ := args
  simp only at hargs
  match args, hargs, X, hX with
  | [v, fv], .cons r0 (.cons r1 .nil), [x], .cons rx .nil =>
  obtain ⟨va, vb, hfv, ha, hb'⟩ := r1
  have hva : va = #[] := by cases va; cases ha; rfl
  have hvb : vb = #[] := by cases vb; cases hb'; rfl
  subst hva hvb hfv
  simp only [RepA, RepV, List.getElem?_cons_zero] at r0 rx
  have hxv : x = v := by have := r0.1.symm.trans rx.1; simpa using this.symm
  subst hxv
  have ok := gd.slot r0.1 (show ([Slot.row true (ρ.t 24) t' xs])[0]? = some _ from rfl)
  obtain ⟨⟨cells, hown, hrow⟩, hbase⟩ := ok
  rw [owns_sl hm] at hown
  left
  refine ⟨L.f6.enters rfl _ w, ?_⟩
  -- what is to show of the row behind it
  have fin : ∀ (w' : World), BelowL LN w w' → (∃ cells', ownsAt w' (ρ.t 24) t'.size x ys.length cells' ∧ RowC (RepC F w' t') t'.size ys cells') → (∀ g, F g → g < w'.heap.size) →
      ∃ v F', (Ending.returned (.tuple #[]) = .returned v) ∧ CResL LN w F [x] (.tup [(false, [.own (ρ.t 24) t' ys])]) v w' F' := by
    intro w' hbel ⟨cells', ho, hr⟩ hF
    refine ⟨_, F, rfl, hbel, hF, fun g h _ => h, fun g h => h, ?_⟩
    refine ⟨_, [], rfl, rfl, [x], [x], ⟨rfl, fun j j' u u' g hu hu' _ _ => ?_, fun n β' H hH hβ => ⟨?_, fun j s u hs hu => ?_⟩⟩, rfl, fun j y ct hj hct => ?_⟩
    · have h2 := (List.getElem?_eq_some_iff.1 hu).1
      have h3 := (List.getElem?_eq_some_iff.1 hu').1
      simp at h2 h3
      omega
    · have e0 := hβ 0 x rfl
      have e1 := hH 0 _ rfl
      rw [Nat.add_zero] at e0 e1
      simp only [adoptA, adoptT, adoptL, adopt1, RepA]
      refine ⟨_, rfl, .cons ⟨_, rfl, ?_⟩ .nil⟩
      simp only [RepV, e1]
      exact ⟨e0, r0.2⟩
    · cases j with
      | zero =>
        simp [adoptA, adoptT, adoptL, adopt1] at hs hu
        subst hs hu
        exact ⟨⟨cells', (owns_sl hm).2 ho, hr⟩, hbase⟩
      | succ j => simp at hu
    · cases j with
      | zero =>
        simp at hj hct
        subst hj hct
        refine .inl ⟨.inl ?_, rfl⟩
        obtain ⟨_, h | ⟨g, o, cap, cur, h, _⟩⟩ := hown
        · exact ⟨none, 0, 0, h.1⟩
        · exact ⟨_, _, _, h⟩
      | succ j => simp at hj
  have hyl : ys.length = xs.length := by rw [← hs]; exact (srtK_perm key xs).length_eq
  by_cases h0 : xs.length = 0
  · have hx0 : xs = [] := List.length_eq_zero_iff.1 h0
    subst hx0
    have hv : ∃ A c, x = .slice A 0 c := by
      obtain ⟨_, h | ⟨g, o, cap, cur, h, _⟩⟩ := hown
      · exact ⟨none, 0, h.1⟩
      · exact ⟨_, _, h⟩
    obtain ⟨A, c, hv⟩ := hv
    have := AnyF.slices_SortFunc_none L A c (.func (.func f') #[] #[]) w
    rw [← hv] at this
    refine this.mono ?_
    rintro e w' ⟨rfl, rfl⟩
    have hys : ys = [] := by rw [← hs]; rfl
    subst hys
    exact fin w' (BelowL.refl _ _) ⟨cells, hown, hrow⟩ gd.fsz
  · obtain ⟨hcl, h | ⟨g, o, cap, cur, hv, hheap, hn, hcap, hfit, htake⟩⟩ := hown
    · exact absurd h.2 h0
    have hg := hbase g (by rw [hv]; rfl)
    have hpos := ek.pos
    let enc : Nat → List Value := fun j => if j < xs.length then (cells.drop (j * t'.size)).take t'.size else z.cells.toList
    have hget : ∀ j, xs.getD j t'.dflt = (xs[j]?).getD t'.dflt := fun j => List.getD_eq_getElem?_getD
    have henc : ∀ j, RepC F w t' (xs.getD j t'.dflt) (enc j) := fun j => by
      show RepC F w t' _ (if j < xs.length then _ else _)
      by_cases hj : j < xs.length
      · rw [if_pos hj, hget, List.getElem?_eq_getElem hj]
        exact hrow.2 j _ (List.getElem?_eq_getElem hj)
      · rw [if_neg hj, hget, List.getElem?_eq_none (by omega)]
        exact ek.rep _ _
    have hk : ∀ j, (enc j).length = t'.size := fun j => (henc j).len
    have h1 : ∀ j, ∀ v ∈ enc j, v.oneCell' = true := fun j => (henc j).one
    let dd : Array Nat := Array.range xs.length
    have hds : dd.size = xs.length := by simp [dd]
    have hdd : ∀ j, j < xs.length → dd[j]! = j := fun j hj => by simp [dd, hj]
    have hcell : ∀ j, j < xs.length * t'.size → (flatK enc t'.size dd)[j]! = cells[j]! := fun j hj => by
      have hq : j / t'.size < xs.length := by rw [Nat.div_lt_iff_lt_mul hpos]; exact hj
      rw [get_flatK _ _ _ _ (by rw [hds]; exact hj), hdd _ hq]
      show ((if j / t'.size < xs.length then (cells.drop (j / t'.size * t'.size)).take t'.size else z.cells.toList))[j % t'.size]! = _
      rw [if_pos hq, List.getElem!_eq_getElem?_getD, List.getElem!_eq_getElem?_getD, List.getElem?_take_of_lt (Nat.mod_lt _ hpos), List.getElem?_drop, show j / t'.size * t'.size + j % t'.size = j by rw [Nat.mul_comm]; exact Nat.div_add_mod j _]
    have hsize : (flatK enc t'.size dd).size = xs.length * t'.size := by rw [size_flatK, hds]
    have hcur : ∀ j, j < cells.length → cur[o + j]? = some cells[j]! := fun j hj => by
      have : (List.take (xs.length * t'.size) (List.drop o cur.toList))[j]? = some cells[j]! := by
        rw [htake, List.getElem!_eq_getElem?_getD, List.getElem?_eq_getElem hj]; rfl
      rw [List.getElem?_take_of_lt (by omega), List.getElem?_drop, Array.getElem?_toList] at this
      exact this
    have hH : HoldsK enc t'.size w g o dd := fun j hj => by
      rw [hsize] at hj
      refine ⟨?_, ?_⟩
      · show w.cell? ⟨g, o + j, none⟩ = some (id _)
        rw [hcell j hj]
        simp only [World.cell?, hheap]
        have := hcur j (by omega)
        simpa using this
      · simp [World.frozen?, hheap]
    have hgl : g < w.heap.size := (Array.getElem?_eq_some_iff.1 hheap).1
    have keepF : ∀ (m : Nat) (dk : Array Nat) (os : Array Obj) (q : Nat), F q → (sortWorldK enc t'.size w g o m dk os).heap[q]? = w.heap[q]? := fun m dk os q hq => sw_other (fun e => hg.2 (e ▸ hq)) (gd.fsz q hq)
    have hcmp : CmpLays P f' #[] enc t'.size (fun a b => Lib.compareInt (key (xs.getD a t'.dflt)) (key (xs.getD b t'.dflt))) g o dd.size w := fun m os dk _ a b => by
      have := hc (sortWorldK enc t'.size w g o m dk os) F _ _ _ _ ((henc a).mono (fun _ h => h) (keepF m dk os)) ((henc b).mono (fun _ h => h) (keepF m dk os))
      simpa using this
    have main := AnyQ.slices_SortFunc L t'.size (fun w => by rw [run_isAgg' tk.und, tk.row, hagg]) (fun w => by simp [sizeOf, run_typeInfo w ek.info, ek.size]) enc hk h1 _ (cmp_swo fun a => key (xs.getD a t'.dflt)) f' #[] g o cap dd w ef hcmp hH hgl (by rw [hds]; omega)
    rw [hds, ← hv] at main
    refine main.mono ?_
    rintro e w' ⟨rfl, d', m, os, hp, hsrt, rfl⟩
    have hd's : d'.size = xs.length := by rw [hp.1, hds]
    have hperm : d'.toList.Perm (List.range xs.length) := by
      have := hp.2.2
      rw [← hd's, Array.extract_size, hd's, ← hds, Array.extract_size] at this
      simpa [dd] using this
    have hmem : ∀ j, j < xs.length → d'[j]! < xs.length := fun j hj => by
      have h1 : d'[j]! ∈ d'.toList := by
        rw [getElem!_pos d' j (by omega)]
        exact Array.getElem_mem_toList (by omega)
      have := hperm.mem_iff.1 h1
      rwa [List.mem_range] at this
    have hys : ys = d'.toList.map (fun a => xs.getD a t'.dflt) := by
      rw [← hs]
      refine sorted_eq key ?_ (nodup_pw key ?_ (srtK_sorted key xs)) (nodup_pw key ?_ ?_)
      · refine (srtK_perm key xs).trans ?_
        have : xs = (List.range xs.length).map (fun a => xs.getD a t'.dflt) := by
          apply List.ext_getElem (by simp)
          intro j h1 h2
          rw [List.getElem_map, List.getElem_range, hget, List.getElem?_eq_getElem h1]; rfl
        conv => lhs; rw [this]
        exact (hperm.map _).symm
      · exact ((srtK_perm key xs).map key).nodup_iff.2 hnd
      · have h2 : (d'.toList.map (fun a => xs.getD a t'.dflt)).Perm xs := by
          have : xs = (List.range xs.length).map (fun a => xs.getD a t'.dflt) := by
            apply List.ext_getElem (by simp)
            intro j h1 h2
            rw [List.getElem_map, List.getElem_range, hget, List.getElem?_eq_getElem h1]; rfl
          conv => rhs; rw [this]
          exact hperm.map _
        exact (h2.map key).nodup_iff.2 hnd
      · rw [List.pairwise_map, List.pairwise_iff_getElem]
        intro a b ha hb hab
        have := hsrt a b (Nat.zero_le _) hab (by simpa [hd's] using hb)
        unfold ltOf at this
        rw [cmp_lt] at this
        simp at ha hb
        rw [getElem!_pos d' a ha, getElem!_pos d' b hb] at this
        simp at this ⊢
        omega
    have hyget : ∀ j, j < xs.length → ys[j]? = some (xs.getD d'[j]! t'.dflt) := fun j hj => by
      rw [hys, List.getElem?_map, Array.getElem?_toList, getElem!_pos d' j (by omega), Array.getElem?_eq_getElem (by omega)]; rfl
    have hfs : (flatK enc t'.size d').size = xs.length * t'.size := by rw [size_flatK, hd's]
    have hmul : xs.length * t'.size ≤ cap * t'.size := Nat.mul_le_mul_right _ hn
    refine fin (sortWorldK enc t'.size w g o m d' os) ⟨rfl, rfl, rfl, sw_size, fun q hq hL => sw_other (fun e => by
      subst e
      rcases hg.1 with h | h
      · omega
      · exact hL h) hq⟩ ⟨(flatK enc t'.size d').toList, ⟨by rw [Array.length_toList, hfs, hyl], .inr ⟨g, o, cap, _, by rw [hv, hyl], sw_heap hheap, by omega, hcap, by unfold putCells; simpa using hfit, ?_⟩⟩, ⟨by rw [Array.length_toList, hfs, hyl], fun j y hj => ?_⟩⟩ (fun q hq => Nat.lt_of_lt_of_le (gd.fsz q hq) sw_size)
    · apply List.ext_getElem?
      intro j
      by_cases hj : j < xs.length * t'.size
      · rw [List.getElem?_take_of_lt (by rw [hyl]; exact hj), List.getElem?_drop, Array.getElem?_toList, Array.getElem?_toList]
        unfold putCells
        have hb := hcur j (by omega)
        rw [Array.getElem?_mapIdx, hb]
        simp only [Option.map_some, id]
        rw [if_pos ⟨by omega, by rw [hfs]; omega⟩, Nat.add_sub_cancel_left, getElem!_pos _ j (by rw [hfs]; exact hj), Array.getElem?_eq_getElem (by rw [hfs]; exact hj)]
      · rw [List.getElem?_eq_none (by rw [List.length_take, hyl]; omega), List.getElem?_eq_none (by rw [Array.length_toList, hfs]; omega)]
    · have hjl : j < xs.length := by rw [← hyl]; exact (List.getElem?_eq_some_iff.1 hj).1
      rw [hyget j hjl] at hj
      injection hj with hj
      subst hj
      have : ((flatK enc t'.size d').toList.drop (j * t'.size)).take t'.size = enc d'[j]! := by
        have hj2 : j * t'.size + t'.size ≤ xs.length * t'.size := by
          have := Nat.mul_le_mul_right t'.size (show j + 1 ≤ xs.length from hjl)
          rwa [Nat.add_mul, Nat.one_mul] at this
        apply List.ext_getElem?
        intro q
        by_cases hq : q < t'.size
        · have e3 : (j * t'.size + q) / t'.size = j := by rw [Nat.mul_comm, Nat.mul_add_div hpos, Nat.div_eq_of_lt hq, Nat.add_zero]
          have e4 : (j * t'.size + q) % t'.size = q := by rw [Nat.mul_comm, Nat.mul_add_mod, Nat.mod_eq_of_lt hq]
          rw [List.getElem?_take_of_lt hq, List.getElem?_drop, Array.getElem?_toList, Array.getElem?_eq_getElem (by rw [hfs]; omega), ← getElem!_pos _ (j * t'.size + q) (by rw [hfs]; omega), get_flatK _ _ _ _ (by rw [hd's]; omega), e3, e4, List.getElem!_eq_getElem?_getD, List.getElem?_eq_getElem (by rw [hk]; exact hq)]
          rfl
        · rw [List.getElem?_eq_none (by rw [List.length_take]; omega), List.getElem?_eq_none (by rw [hk]; omega)]
      rw [this]
      exact (henc _).mono (fun _ h => h) (keepF m d' os)
end
end Go.Proofs.Ytanpdkllnmeenaa.Am

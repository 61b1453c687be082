/- What a row's arguments hold, told by the machine's types. -/
import Derived.Test.YtanpdkllnmeenaaAmCtx
import Derived.WideShapes
import Derived.ChangeShapes
import Derived.ChangeSlices
import Derived.ChangeArms
import Derived.DataReads
import Derived.SizedLaws
namespace Go.Proofs.Ytanpdkllnmeenaa.Am
open Go Go.RowKit
set_option linter.unusedVariables false
set_option linter.unusedSectionVars false
/-- Within the bounds that a row's data have. -/
def wfT : (t : Ty) → t.den → Prop
  | .int k, n => (Lit.int k n).wf = true
  | .bool, _ => True
  | .str, s => s.size ≤ 140737488351232
  | .sl t, xs => xs.length ≤ 140737488351232 ∧ ∀ x ∈ xs, wfT t x
  | .pair a b, p => wfT a p.1 ∧ wfT b p.2
  | .unit, _ => True
  | .opq, _ => False
/-- The fields from a place on. -/
def deepF (P : Program) (g : Ty → TypeId → Bool) : Ty → List Field → Nat → Bool
  | T, [f], off => Nat.beq f.offset off && (Nat.beq (P.cellsOf f.type) T.size && g T f.type)
  | .pair a b, f :: r, off => Nat.beq f.offset off && (Nat.beq (P.cellsOf f.type) a.size && (g a f.type && deepF P g b r (off + a.size)))
  | _, _, _ => false
/-- Does a type say what the machine's type says, all the way down? -/
def deepB (P : Program) : Nat → Ty → TypeId → Bool
  | 0, _, _ => false
  | n + 1, .int k, t => match P.underlying t with | some (.int k') => decide (k' = k) | _ => false
  | n + 1, .bool, t => match P.underlying t with | some .bool => true | _ => false
  | n + 1, .str, t => match P.underlying t with | some .string => true | _ => false
  | n + 1, .sl e, t => !e.isMp && match P.underlying t with | some (.slice e') => Nat.beq (P.cellsOf e') e.size && (Nat.blt 0 (P.bytesOf e') && (Nat.blt 0 e.size && deepB P n e e')) | _ => false
  | n + 1, T, t => match P.underlying t with
    | some (.struct fs) => Nat.beq (P.cellsOf t) T.size && (match fs.toList, T with
      | [f], .pair a .unit => Nat.beq f.offset 0 && (Nat.beq (P.cellsOf f.type) a.size && deepB P n a f.type)
      | l, T => deepF P (deepB P n) T l 0)
    | _ => false
abbrev Old (W : World) : Nat → Prop := fun g => g < W.heap.size
section
variable {P : Program}
structure Opn (P : Program) (T : Ty) (t : TypeId) : Prop where
  run : ∀ {H : Type} {enc : TypeId × Value → H} {W : World} {base : Nat} {spare : Nat → Bool} {held : Bool} {fuel : Nat} {cs : List Value} {x : DataW H × List MemPlace}, DataW.trod enc P W base spare held fuel t cs = some x → (∀ z ∈ DataW.weights P t x.1, z ≤ reachBytes) → ∃ a : T.den, RepC (Old W) W T a cs ∧ wfT T a
theorem opn_int {t : TypeId} {k : IntKind} (ht : P.underlying t = some (.int k)) : Opn P (.int k) t := by
  constructor
  intro H enc W base spare held fuel cs x h _
  obtain ⟨n, rfl, _, hw⟩ := DataW.trod_int ht h
  exact ⟨n, rfl, hw⟩
theorem opn_bool {t : TypeId} (ht : P.underlying t = some .bool) : Opn P .bool t := by
  constructor
  intro H enc W base spare held fuel cs x h _
  obtain ⟨b, rfl, _⟩ := DataW.trod_bool ht h
  exact ⟨b, rfl, trivial⟩
theorem opn_str {t : TypeId} (ht : P.underlying t = some .string) : Opn P .str t := by
  constructor
  intro H enc W base spare held fuel cs x h hz
  obtain ⟨s, rfl, rfl, _⟩ := DataW.trod_string ht h
  refine ⟨s, rfl, ?_⟩
  have := hz _ (show s.data.toList.length ∈ _ by simp [DataW.weights])
  rw [Array.length_toList] at this
  exact this
theorem choose_list {α : Type} (Q : Nat → α → Prop) : ∀ n, (∀ i, i < n → ∃ a, Q i a) → ∃ l : List α, l.length = n ∧ ∀ i a, l[i]? = some a → Q i a
  | 0, _ => ⟨[], rfl, fun i a h => by simp at h⟩
  | n + 1, h => by
    obtain ⟨l, hl, hq⟩ := choose_list Q n (fun i hi => h i (by omega))
    obtain ⟨a, ha⟩ := h n (by omega)
    refine ⟨l ++ [a], by simp [hl], fun i b hb => ?_⟩
    by_cases hi : i < n
    · rw [List.getElem?_append_left (by omega)] at hb; exact hq i b hb
    · have hlt := (List.getElem?_eq_some_iff.1 hb).1
      simp at hlt
      have : i = n := by omega
      subst this
      rw [List.getElem?_append_right (by omega), hl, Nat.sub_self] at hb
      simp at hb
      subst hb
      exact ha
theorem weights_mem {H : Type} {e : TypeId} : ∀ {ds : List (DataW H)} {d : DataW H}, d ∈ ds → ∀ n ∈ d.weights P e, n ∈ DataW.weightsAll P e ds
  | d0 :: ds, d, hd, n, hn => by
    unfold DataW.weightsAll
    rcases List.mem_cons.mp hd with rfl | hd
    · exact List.mem_append_left _ hn
    · exact List.mem_append_right _ (weights_mem hd n hn)
theorem opn_sl {t e : TypeId} {T : Ty} (ht : P.underlying t = some (.slice e)) (hm : T.isMp = false) (hsz : P.cellsOf e = T.size) (hB : 0 < P.bytesOf e) (hpos : 0 < T.size) (he : Opn P T e) : Opn P (.sl T) t := by
  constructor
  intro H enc W base spare held fuel cs x h hz
  rcases DataW.trod_slice ht h with ⟨rfl, rfl⟩ | ⟨a, len, cap, elems, rest, n, _, rfl, rfl, hb, hl, hmx, hlen, hel, _, _⟩
  · exact ⟨[], ⟨none, 0, by rw [hdr_sl hm]; rfl, Nat.le_refl _, .inl ⟨rfl, fun _ => rfl⟩⟩, by simp, fun x hx => by simp at hx⟩
  · have hw : ∀ z ∈ (elems.length + rest.length) * P.bytesOf e :: (DataW.weightsAll P e (elems.map (·.1)) ++ DataW.weightsAll P e (rest.map (·.1))), z ≤ reachBytes := by
      have := hz
      unfold DataW.weights at this
      rw [ht] at this
      simpa using this
    have each : ∀ i, i < len → ∃ v : (y : T.den) × List Value, wfT T v.1 ∧ v.2.length = T.size ∧ RepC (Old W) W T v.1 v.2 ∧ ∀ j u, v.2[j]? = some u → W.cell? (a.add (i * T.size + j)) = some u := by
      intro i hi
      have h1 := hel i hi
      have hi' : i < elems.length := by omega
      rw [List.getElem?_eq_getElem hi', Option.bind_eq_some_iff] at h1
      obtain ⟨c, hc, ht2⟩ := h1
      obtain ⟨_, hcl, hcc⟩ := World.cells?_some hc
      obtain ⟨v, hK, hwf⟩ := he.run ht2 (fun z hz2 => hw z (List.mem_cons_of_mem _ (List.mem_append_left _ (weights_mem (List.mem_map_of_mem (List.getElem_mem hi')) z hz2))))
      refine ⟨⟨v, c⟩, hwf, by rw [hcl, hsz], hK, fun j u hu => ?_⟩
      have hj : j < P.cellsOf e := by have := (List.getElem?_eq_some_iff.1 hu).1; simp only at this; omega
      have h3 := hcc j hj
      rw [hu, Addr.add_add, hsz] at h3
      exact h3
    obtain ⟨l, hll, hq⟩ := choose_list _ len each
    have hle : (elems.length + rest.length) * P.bytesOf e ≤ reachBytes := hw _ List.mem_cons_self
    refine ⟨l.map (·.1), ?_, ?_, fun x hx => ?_⟩
    · refine ⟨some a, cap, by rw [hdr_sl hm, List.length_map, hll], by rw [List.length_map]; omega, ?_⟩
      by_cases h0 : len = 0
      · left
        refine ⟨by rw [List.length_eq_zero_iff.1 (hll.trans h0)]; rfl, fun h => by simp [hm] at h⟩
      · right
        have hl0 : 0 < l.length := by omega
        obtain ⟨_, hc0, _, hcell0⟩ := hq 0 l[0] (List.getElem?_eq_getElem hl0)
        have h00 := hcell0 0 l[0].2[0] (List.getElem?_eq_getElem (by omega))
        have hadd0 : a.add (0 * T.size + 0) = a := by simp [Addr.add]
        rw [hadd0] at h00
        have hspot := World.cell?_spot h00
        have hblk : a.block < W.heap.size := World.block_lt_of_cell? W a h00
        obtain ⟨g, o, sp⟩ := a
        simp only at hspot
        subst hspot
        refine ⟨g, o, (l.map (·.2)).flatten, rfl, hblk, ⟨?_, fun i x hx => ?_⟩, (lies_sl hm).2 ?_⟩
        · have hfl : ∀ y ∈ l, (y.2).length = T.size := fun y hy => by
            obtain ⟨i, hi⟩ := List.getElem?_of_mem hy
            exact (hq i y hi).2.1
          rw [flat_len (f := fun y : (y : T.den) × List Value => y.2) hfl, List.length_map]
        · rw [List.getElem?_map, Option.map_eq_some_iff] at hx
          obtain ⟨y, hy, rfl⟩ := hx
          rw [flat_at (f := fun y : (y : T.den) × List Value => y.2) (fun y hy => by
            obtain ⟨i, hi⟩ := List.getElem?_of_mem hy
            exact (hq i y hi).2.1) hy]
          exact (hq i y hy).2.2.1
        · intro j u hu
          have hfl : ∀ y ∈ l, (y.2).length = T.size := fun y hy => by
            obtain ⟨i, hi⟩ := List.getElem?_of_mem hy
            exact (hq i y hi).2.1
          have hjl := (List.getElem?_eq_some_iff.1 hu).1
          rw [flat_len (f := fun y : (y : T.den) × List Value => y.2) hfl] at hjl
          have hi : j / T.size < l.length := by rw [Nat.div_lt_iff_lt_mul hpos]; exact hjl
          have hmod : j % T.size < T.size := Nat.mod_lt _ hpos
          have hdm : j / T.size * T.size + j % T.size = j := by rw [Nat.mul_comm]; exact Nat.div_add_mod j T.size
          have hch := flat_at (f := fun y : (y : T.den) × List Value => y.2) hfl (List.getElem?_eq_getElem hi)
          have hu2 : (l[j / T.size].2)[j % T.size]? = some u := by
            rw [← hch, List.getElem?_take_of_lt hmod, List.getElem?_drop, hdm]
            exact hu
          have := (hq _ _ (List.getElem?_eq_getElem hi)).2.2.2 _ u hu2
          rw [hdm, Addr.add_mid] at this
          exact this
    · rw [List.length_map, hll]
      have h4 : len * 1 ≤ (elems.length + rest.length) * P.bytesOf e := Nat.mul_le_mul (by omega) hB
      have : reachBytes = 140737488351232 := rfl
      omega
    · obtain ⟨y, hy, rfl⟩ := List.mem_map.1 hx
      obtain ⟨i, hi⟩ := List.getElem?_of_mem hy
      exact (hq i y hi).1
structure OpnF (P : Program) (T : Ty) (l : List Field) (off : Nat) : Prop where
  run : ∀ {H : Type} {enc : TypeId × Value → H} {W : World} {base : Nat} {spare : Nat → Bool} {held : Bool} {n : Nat} {cs : List Value} {xs : List (DataW H × List MemPlace)}, cs.length = off + T.size → xs.length = l.length →
  (∀ (i : Nat) (f : Field), l[i]? = some f → ((cs.drop f.offset).take (P.cellsOf f.type) |> DataW.trod enc P W base spare held n f.type) = xs[i]?) → (∀ z ∈ DataW.weightsEach P (l.map (·.type)) (xs.map (·.1)), z ≤ reachBytes) → ∃ a : T.den, RepC (Old W) W T a (cs.drop off) ∧ wfT T a
theorem opnF_one {T : Ty} {f : Field} {off : Nat} (ho : f.offset = off) (hs : P.cellsOf f.type = T.size) (h : Opn P T f.type) : OpnF P T [f] off := by
  constructor
  intro H enc W base spare held n cs xs hl hx ht hz
  have h0 := ht 0 f rfl
  match xs, hx with
  | [x], _ =>
    rw [ho, hs, List.take_of_length_le (by rw [List.length_drop, hl]; omega)] at h0
    exact h.run h0 (fun z hz2 => hz z (by simp [DataW.weightsEach]; exact hz2))
theorem opnF_cons {A B : Ty} {f : Field} {r : List Field} {off : Nat} (ho : f.offset = off) (hs : P.cellsOf f.type = A.size) (h : Opn P A f.type) (h2 : OpnF P B r (off + A.size)) : OpnF P (.pair A B) (f :: r) off := by
  constructor
  intro H enc W base spare held n cs xs hl hx ht hz
  have hl' : cs.length = off + (A.size + B.size) := hl
  match xs, hx with
  | x :: xs', hx =>
    have h0 := ht 0 f rfl
    try simp only at h0
    rw [ho, hs] at h0
    obtain ⟨a, hK, hw⟩ := h.run h0 (fun z hz2 => hz z (by simp only [List.map_cons, DataW.weightsEach]; exact List.mem_append_left _ hz2))
    obtain ⟨b, hK2, hw2⟩ := h2.run (cs := cs) (xs := xs') (by omega) (by simpa using hx) (fun i g hg => by
      have := ht (i + 1) g hg
      simpa using this) (fun z hz2 => hz z (by simp only [List.map_cons, DataW.weightsEach]; exact List.mem_append_right _ hz2))
    refine ⟨(a, b), ⟨(cs.drop off).take A.size, cs.drop (off + A.size), ?_, hK, hK2⟩, hw, hw2⟩
    rw [← List.drop_drop, List.take_append_drop]
theorem deepF_ok {g : Ty → TypeId → Bool} (hg : ∀ T t, g T t = true → Opn P T t) : ∀ {T : Ty} {l : List Field} {off : Nat}, deepF P g T l off = true → OpnF P T l off
  | T, [f], off, h => by
    unfold deepF at h
    simp only [Bool.and_eq_true] at h
    exact opnF_one (Nat.eq_of_beq_eq_true h.1) (Nat.eq_of_beq_eq_true h.2.1) (hg _ _ h.2.2)
  | .pair a b, f :: f2 :: r, off, h => by
    simp only [deepF, Bool.and_eq_true] at h
    exact opnF_cons (Nat.eq_of_beq_eq_true h.1) (Nat.eq_of_beq_eq_true h.2.1) (hg _ _ h.2.2.1) (deepF_ok hg h.2.2.2)
  | T, [], off, h => by cases T <;> simp [deepF] at h
  | .int _, _ :: _ :: _, _, h | .bool, _ :: _ :: _, _, h | .str, _ :: _ :: _, _, h | .sl _, _ :: _ :: _, _, h | .unit, _ :: _ :: _, _, h | .opq, _ :: _ :: _, _, h => by simp [deepF] at h
theorem opn_struct {t : TypeId} {fs : Array Field} {T : Ty} (ht : P.underlying t = some (.struct fs)) (hs : P.cellsOf t = T.size) (h : OpnF P T fs.toList 0) : Opn P T t := by
  constructor
  intro H enc W base spare held fuel cs x hx hz
  obtain ⟨xs, n, _, rfl, hl, hxl, hf⟩ := DataW.trod_struct ht hx
  have := h.run (cs := cs) (xs := xs) (by omega) (by simpa using hxl) (fun i f hi => hf i f (by rw [← Array.getElem?_toList]; exact hi)) (fun z hz2 => hz z (by unfold DataW.weights; rw [ht]; exact hz2))
  rwa [List.drop_zero] at this
theorem deep_ok : ∀ {n : Nat} {T : Ty} {t : TypeId}, deepB P n T t = true → Opn P T t
  | 0, _, _, h => by simp [deepB] at h
  | n + 1, .int k, t, h => by
    simp only [deepB] at h
    split at h
    · rename_i k' hk; simp at h; subst h; exact opn_int hk
    · simp at h
  | n + 1, .bool, t, h => by
    simp only [deepB] at h
    split at h
    · rename_i hk; exact opn_bool hk
    · simp at h
  | n + 1, .str, t, h => by
    simp only [deepB] at h
    split at h
    · rename_i hk; exact opn_str hk
    · simp at h
  | n + 1, .sl e, t, h => by
    simp only [deepB, Bool.and_eq_true, Bool.not_eq_true'] at h
    obtain ⟨hm, h⟩ := h
    split at h
    · rename_i e' hk
      simp only [Bool.and_eq_true] at h
      exact opn_sl hk hm (Nat.eq_of_beq_eq_true h.1) (Nat.le_of_ble_eq_true h.2.1) (Nat.le_of_ble_eq_true h.2.2.1) (deep_ok h.2.2.2)
    · simp at h
  | n + 1, .pair a b, t, h => by
    simp only [deepB] at h
    split at h
    · rename_i fs hk
      simp only [Bool.and_eq_true] at h
      refine opn_struct hk (Nat.eq_of_beq_eq_true h.1) ?_
      have h2 := h.2
      split at h2
      · rename_i f a' hfs hT
        injection hT with e1 e2
        subst e1 e2
        simp only [Bool.and_eq_true] at h2
        rw [hfs]
        constructor
        intro H enc W base spare held m cs xs hl hx ht hz
        obtain ⟨y, h5, h6⟩ := (opnF_one (Nat.eq_of_beq_eq_true h2.1) (Nat.eq_of_beq_eq_true h2.2.1) (deep_ok h2.2.2)).run (cs := cs) (xs := xs) (by simpa [Ty.size] using hl) hx ht hz
        exact ⟨(y, ()), ⟨cs.drop 0, [], by simp, h5, rfl⟩, h6, trivial⟩
      · exact deepF_ok (g := deepB P n) (fun T t h => deep_ok h) h2
    · simp at h
  | n + 1, .unit, t, h => by
    simp only [deepB] at h
    split at h
    · rename_i fs hk
      simp only [Bool.and_eq_true] at h
      exact opn_struct hk (Nat.eq_of_beq_eq_true h.1) (deepF_ok (g := deepB P n) (fun T t h => deep_ok h) (by
        have h2 := h.2
        split at h2
        · rename_i hT; cases hT
        · exact h2))
    · simp at h
  | n + 1, .opq, t, h => by
    simp only [deepB] at h
    split at h
    · rename_i fs hk
      simp only [Bool.and_eq_true] at h
      exact opn_struct hk (Nat.eq_of_beq_eq_true h.1) (deepF_ok (g := deepB P n) (fun T t h => deep_ok h) (by
        have h2 := h.2
        split at h2
        · rename_i hT; cases hT
        · exact h2))
    · simp at h
/-- An argument of a row. -/
theorem arg_open {T : Ty} {t : TypeId} (ho : Opn P T t) {H : Type} {enc : TypeId × Value → H} {W : World} {base : Nat} {spare : Nat → Bool} {held : Bool} {v : Value} {x : DataW H} {ps : List MemPlace} (h : DataW.Trod enc P W base spare held t v x ps)
    {ts : List TypeId} {ds : List (DataW H)} (hsz : (DataW.weightsEach P ts ds).all (· ≤ reachBytes) = true) {j : Nat} (ht : ts[j]? = some t) (hd : ds[j]? = some x) : ∃ a : T.den, RepC (Old W) W T a v.cells.toList ∧ wfT T a := by
  obtain ⟨fuel, hf⟩ := h
  exact ho.run hf (fun z hz => by
    have := List.all_eq_true.1 hsz _ (DataW.weights_mem_each ht hd z hz)
    simpa using this)
theorem cells_agg {v : Value} (h : ∀ cs, v ≠ .agg cs) : v.cells.toList = [v] := by cases v <;> first | rfl | exact absurd rfl (h _)
theorem arg_rep {T : Ty} {W : World} {a : T.den} {v : Value} (h : RepC (Old W) W T a v.cells.toList) (hv : match T.isAgg with | true => ∃ cs, v = .agg cs | false => ∀ cs, v ≠ .agg cs) : RepA (Old W) W (fun _ => none) [] ((AS.ty T).enc a) v := by
  cases hT : T.isAgg with
  | true =>
    simp only [hT] at hv
    obtain ⟨cs, rfl⟩ := hv
    simp only [AS.enc, hT, if_true]
    exact ⟨cs, rfl, rep_flat h⟩
  | false =>
    simp only [hT] at hv
    simp only [AS.enc, hT, Bool.false_eq_true, if_false]
    rw [cells_agg hv] at h
    have := rep_flat (β := fun _ => none) (H := []) h
    cases hf : flat T a with
    | nil => rw [hf] at this; cases this
    | cons c r =>
      rw [hf] at this
      cases this with
      | cons r1 r2 =>
        cases r2
        exact r1
theorem okWide_agg {w : World} {r : Reach} {base : Nat} {t : TypeId} {v : Value} {fs : Array Field} (ht : P.underlying t = some (.struct fs)) (h : Value.okWide P w r base t v) : ∃ cs, v = .agg cs := by
  simp only [Value.okWide, ht] at h
  obtain ⟨cs, h, _⟩ := h
  exact ⟨cs, h⟩
/-- A law that returns true. -/
theorem law_true {C : Ctx} {pr : Prims} (e : Entry P C pr) (cx : CtxOk P C) (hn : C.nxt = false) (hg : ∀ (g : FuncId) (fn : Func), P.funcs[g]? = some fn → (fn.name == "runtime.NumGoroutine") = false) (hp : PrimsOk P pr) {fn : Func} {c : Code} (hf : P.funcs[e.id]? = some fn) (hb : fn.body = some c) (h0 : e.heap = []) (hr0 : e.roots = []) (hres : e.res = .one .bool) {k : Nat} {a : HA e.args × HS e.heap} {b : e.res.den}
    (henc : e.res.enc b = .one (.bool true)) (h : ∀ {R : Type} (ret : e.res.den → Option R), e.f k a ret = ret b) {W : World} {args : Array Value} (hargs : All2 (RepA (Old W) W (fun _ => none) []) (encAs e.args a.1) args.toList) : Calls P e.id args W fun x W' => x = .returned (.bool true) ∧ Below W.heap.size W W' := by
  have hc := entry_call e cx hn hg hp h
  rw [henc] at hc
  have hpk : (encP e.args e.heap e.roots a).heap = [] := by
    show encSs e.heap a.2 = []
    have : ∀ (l : List SS) (x : HS l), l = [] → encSs l x = [] := fun l x hl => by subst hl; rfl
    exact this _ _ h0
  have hrt : (encP e.args e.heap e.roots a).roots = [] := hr0
  rcases hc (fun _ => False) W (Old W) (fun _ => none) args [] (by rw [hpk]; exact good_start fun b h => h) (by rw [hpk]; exact hargs) (by rw [hrt]; exact .nil) with ⟨_, h2⟩ | ⟨v, w', F', h1, _⟩
  · refine h2.mono ?_
    rintro x W' ⟨v, F', rfl, hres⟩
    refine ⟨?_, ⟨hres.below.os, hres.below.tape, hres.below.output, hres.below.size, fun k hk => hres.below.block k hk id⟩⟩
    obtain ⟨us, hl, _, hall⟩ := hres.rep
    have hr := (hall 0 (fun _ => none) [] (fun j s hs => by simp [adoptA, adopt1] at hs) (fun j u hu => by
      have h3 : us.length = 0 := hl
      have := List.length_eq_zero_iff.1 h3
      subst this
      simp at hu)).1
    have hr' : v = .bool true := hr
    rw [hr']
  · rw [run_enter hf (hg _ _ hf) hb] at h1
    simp at h1
end
end Go.Proofs.Ytanpdkllnmeenaa.Am


/- What a row's arguments hold, kind by kind: out of the data that the row tells come the values that the printed walks speak of, and their bounds. -/
import Derived.Test.YtghkngdcmlhmeaaProg
import Derived.Test.YtghkngdcmlhmeaaWWords
import Derived.Test.YtghkngdcmlhmeaaWShare
import Derived.Test.YtghkngdcmlhmeaaWMore
import Derived.WideShapes
import Derived.ChangeShapes
import Derived.ChangeSlices
import Derived.ChangeArms
import Derived.DataReads
import Derived.SizedLaws
set_option linter.unusedVariables false
set_option linter.unusedSimpArgs false
set_option linter.unusedSectionVars false
namespace Go.Proofs.Ytghkngdcmlhmeaa.Ops
open Go Go.RowKit Go.Proofs.YtghkngdcmlhmeaaW.PrintWords
/-- At type t the data read as this kind, each within its bounds. -/
structure Opens {α : Type} (P : Program) (t : TypeId) (d : Kd α) (wf : α → Prop) : Prop where
  run : ∀ {H : Type} {enc : TypeId × Value → H} {W : World} {base : Nat} {spare : Nat → Bool} {held : Bool} {fuel : Nat} {cs : List Value} {x : DataW H × List MemPlace}, DataW.trod enc P W base spare held fuel t cs = some x → (∀ z ∈ DataW.weights P t x.1, z ≤ reachBytes) → ∃ a : α, d.K W a cs ∧ wf a
theorem opens_int {P : Program} {t : TypeId} {k : IntKind} (ht : P.underlying t = some (.int k)) : Opens P t (Kd.int k) (fun n => (Lit.int k n).wf = true) := by
  constructor
  intro H enc W base spare held fuel cs x h _
  obtain ⟨n, rfl, _, hw⟩ := DataW.trod_int ht h
  exact ⟨n, rfl, hw⟩
theorem opens_bool {P : Program} {t : TypeId} (ht : P.underlying t = some .bool) : Opens P t Kd.bool (fun _ => True) := by
  constructor
  intro H enc W base spare held fuel cs x h _
  obtain ⟨b, rfl, _⟩ := DataW.trod_bool ht h
  exact ⟨b, rfl, trivial⟩
theorem opens_string {P : Program} {t : TypeId} (ht : P.underlying t = some .string) : Opens P t Kd.string (fun s => s.size ≤ 140737488351232) := by
  constructor
  intro H enc W base spare held fuel cs x h hz
  obtain ⟨s, rfl, rfl, _⟩ := DataW.trod_string ht h
  refine ⟨s, rfl, ?_⟩
  have := hz _ (show s.data.toList.length ∈ _ by simp [DataW.weights])
  rw [Array.length_toList] at this
  exact this
theorem choose_list {α : Type} (Q : Nat → α → Prop) : ∀ n, (∀ i, i < n → ∃ a, Q i a) → ∃ l : List α, l.length = n ∧ ∀ i a, l[i]? = some a → Q i a
  | 0, _ => ⟨[], rfl, fun i a h => by simp at h⟩
  | n + 1, h => by
    obtain ⟨l, hl, hq⟩ := choose_list Q n (fun i hi => h i (by omega))
    obtain ⟨a, ha⟩ := h n (by omega)
    refine ⟨l ++ [a], by simp [hl], fun i b hb => ?_⟩
    by_cases hi : i < n
    · rw [List.getElem?_append_left (by omega)] at hb; exact hq i b hb
    · have hlt := (List.getElem?_eq_some_iff.1 hb).1
      simp at hlt
      have : i = n := by omega
      subst this
      rw [List.getElem?_append_right (by omega), hl, Nat.sub_self] at hb
      simp at hb
      subst hb
      exact ha
theorem weights_mem_all {H : Type} {P : Program} {e : TypeId} : ∀ {ds : List (DataW H)} {d : DataW H}, d ∈ ds → ∀ n ∈ d.weights P e, n ∈ DataW.weightsAll P e ds
  | d0 :: ds, d, hd, n, hn => by
    unfold DataW.weightsAll
    rcases List.mem_cons.mp hd with rfl | hd
    · exact List.mem_append_left _ hn
    · exact List.mem_append_right _ (weights_mem_all hd n hn)
theorem opens_slice {α : Type} {P : Program} {t e : TypeId} {d : Kd α} {wf : α → Prop} {B : Nat} (ht : P.underlying t = some (.slice e)) (he : Opens P e d wf) (hsz : P.cellsOf e = d.sz) (hB : P.bytesOf e = B) :
    Opens P t (Kd.slice e d) (fun l => l.length ≤ maxLen ∧ l.length * B ≤ 140737488351232 ∧ ∀ x ∈ l, wf x) := by
  constructor
  intro H enc W base spare held fuel cs x h hz
  rcases DataW.trod_slice ht h with ⟨rfl, rfl⟩ | ⟨a, len, cap, elems, rest, n, _, rfl, rfl, hb, hl, hm, hlen, hel, _, _⟩
  · exact ⟨[], ⟨none, 0, rfl, Nat.le_refl _, Kd.C_nil d W⟩, by simp, by simp, fun x hx => by cases hx⟩
  · have hw : ∀ z ∈ (elems.length + rest.length) * P.bytesOf e :: (DataW.weightsAll P e (elems.map (·.1)) ++ DataW.weightsAll P e (rest.map (·.1))), z ≤ reachBytes := by
      have := hz
      unfold DataW.weights at this
      rw [ht] at this
      simpa using this
    have each : ∀ i, i < len → ∃ v : α, wf v ∧ ∃ c : List Value, c.length = d.sz ∧ d.K W v c ∧ ∀ j u, c[j]? = some u → W.cell? (a.add (i * d.sz + j)) = some u := by
      intro i hi
      have h1 := hel i hi
      have hi' : i < elems.length := by omega
      rw [List.getElem?_eq_getElem hi', Option.bind_eq_some_iff] at h1
      obtain ⟨c, hc, ht2⟩ := h1
      obtain ⟨_, hcl, hcc⟩ := World.cells?_some hc
      obtain ⟨v, hK, hwf⟩ := he.run ht2 (fun z hz2 => hw z (List.mem_cons_of_mem _ (List.mem_append_left _ (weights_mem_all (List.mem_map_of_mem (List.getElem_mem hi')) z hz2))))
      refine ⟨v, hwf, c, by rw [hcl, hsz], hK, fun j u hu => ?_⟩
      have hj : j < P.cellsOf e := by have := (List.getElem?_eq_some_iff.1 hu).1; omega
      have h3 := hcc j hj
      rw [hu, Addr.add_add, hsz] at h3
      exact h3
    obtain ⟨l, hll, hq⟩ := choose_list _ len each
    refine ⟨l, ⟨some a, cap, by rw [hll], by omega, ?_⟩, ?_, ?_, ?_⟩
    · refine ⟨rfl, by unfold maxLen at hm; omega, fun _ => ⟨a, rfl, fun j p hj => (hq j p hj).2⟩⟩
    · omega
    · have := hw _ List.mem_cons_self
      rw [hB] at this
      have h4 : l.length * B ≤ (elems.length + rest.length) * B := Nat.mul_le_mul_right _ (by omega)
      exact Nat.le_trans h4 this
    · intro x hx
      obtain ⟨j, hj, rfl⟩ := List.getElem_of_mem hx
      exact (hq j _ (List.getElem?_eq_getElem hj)).1
/-- The fields from a place on. -/
structure OpensL {α : Type} (P : Program) (l : List Field) (off : Nat) (d : Kd α) (wf : α → Prop) : Prop where
  run : ∀ {H : Type} {enc : TypeId × Value → H} {W : World} {base : Nat} {spare : Nat → Bool} {held : Bool} {n : Nat} {cs : List Value} {xs : List (DataW H × List MemPlace)}, cs.length = off + d.sz → xs.length = l.length → (∀ (i : Nat) (f : Field), l[i]? = some f → DataW.trod enc P W base spare held n f.type ((cs.drop f.offset).take (P.cellsOf f.type)) = xs[i]?) →
    (∀ z ∈ DataW.weightsEach P (l.map (·.type)) (xs.map (·.1)), z ≤ reachBytes) → ∃ a : α, d.K W a (cs.drop off) ∧ wf a
theorem OpensL.one {α : Type} {P : Program} {f : Field} {off : Nat} {d : Kd α} {wf : α → Prop} (h : Opens P f.type d wf) (ho : f.offset = off) (hs : P.cellsOf f.type = d.sz) : OpensL P [f] off d wf := by
  constructor
  intro H enc W base spare held n cs xs hl hx ht hz
  have h0 := ht 0 f rfl
  match xs, hx with
  | [x], _ =>
    rw [ho, hs, List.take_of_length_le (by rw [List.length_drop, hl]; omega)] at h0
    exact h.run h0 (fun z hz2 => hz z (by simp [DataW.weightsEach]; exact hz2))
theorem OpensL.cons {α β : Type} {P : Program} {f : Field} {r : List Field} {off off2 : Nat} {d : Kd α} {d2 : Kd β} {wf : α → Prop} {wf2 : β → Prop} (h : Opens P f.type d wf) (ho : f.offset = off) (hs : P.cellsOf f.type = d.sz) (he : off + d.sz = off2) (h2 : OpensL P r off2 d2 wf2) :
    OpensL P (f :: r) off (Kd.pair d d2) (fun x => wf x.1 ∧ wf2 x.2) := by
  constructor
  intro H enc W base spare held n cs xs hl hx ht hz
  have hl' : cs.length = off + (d.sz + d2.sz) := hl
  match xs, hx with
  | x :: xs', hx =>
    have h0 := ht 0 f rfl
    rw [ho, hs] at h0
    obtain ⟨a, hK, hw⟩ := h.run h0 (fun z hz2 => hz z (by simp only [List.map_cons, DataW.weightsEach]; exact List.mem_append_left _ hz2))
    obtain ⟨b, hK2, hw2⟩ := h2.run (cs := cs) (xs := xs') (by omega) (by simpa using hx) (fun i g hg => by
      have := ht (i + 1) g hg
      simpa using this) (fun z hz2 => hz z (by simp only [List.map_cons, DataW.weightsEach]; exact List.mem_append_right _ hz2))
    refine ⟨(a, b), ⟨(cs.drop off).take d.sz, cs.drop off2, ?_, hK, hK2⟩, hw, hw2⟩
    rw [← he, ← List.drop_drop, List.take_append_drop]
theorem opens_struct {α : Type} {P : Program} {t : TypeId} {fs : Array Field} {d : Kd α} {wf : α → Prop} (ht : P.underlying t = some (.struct fs)) (h : OpensL P fs.toList 0 d wf) (hs : P.cellsOf t = d.sz) : Opens P t d wf := by
  constructor
  intro H enc W base spare held fuel cs x hx hz
  obtain ⟨xs, n, _, rfl, hl, hxl, hf⟩ := DataW.trod_struct ht hx
  have := h.run (cs := cs) (xs := xs) (by omega) (by simpa using hxl) (fun i f hi => hf i f (by rw [← Array.getElem?_toList]; exact hi)) (fun z hz2 => hz z (by unfold DataW.weights; rw [ht]; exact hz2))
  rwa [List.drop_zero] at this
theorem Opens.iso {α β : Type} {P : Program} {t : TypeId} {d : Kd α} {wf : α → Prop} (h : Opens P t d wf) (f : β → α) (g : α → β) (hfg : ∀ a, f (g a) = a) : Opens P t (Kd.iso d f) (fun b => wf (f b)) := by
  constructor
  intro H enc W base spare held fuel cs x hx hz
  obtain ⟨a, hK, hw⟩ := h.run hx hz
  refine ⟨g a, ?_, by show wf (f (g a)); rw [hfg]; exact hw⟩
  show d.K W (f (g a)) cs
  rw [hfg]
  exact hK
/-- An argument of a row. -/
theorem open_arg {α : Type} {P : Program} {t : TypeId} {d : Kd α} {wf : α → Prop} (ho : Opens P t d wf) {H : Type} {enc : TypeId × Value → H} {W : World} {base : Nat} {spare : Nat → Bool} {held : Bool} {v : Value} {x : DataW H} {ps : List MemPlace} (h : DataW.Trod enc P W base spare held t v x ps)
    {ts : List TypeId} {ds : List (DataW H)} (hsz : (DataW.weightsEach P ts ds).all (· ≤ reachBytes) = true) {j : Nat} (ht : ts[j]? = some t) (hd : ds[j]? = some x) : ∃ a : α, d.K W a v.cells.toList ∧ wf a := by
  obtain ⟨fuel, hf⟩ := h
  exact ho.run hf (fun z hz => by
    have := List.all_eq_true.1 hsz _ (DataW.weights_mem_each ht hd z hz)
    simpa using this)
theorem okWide_struct {P : Program} {w : World} {r : Reach} {base : Nat} {t : TypeId} {v : Value} {fs : Array Field} (ht : P.underlying t = some (.struct fs)) (h : Value.okWide P w r base t v) : ∃ cs, v = .agg cs := by
  simp only [Value.okWide, ht] at h
  obtain ⟨cs, h, _⟩ := h
  exact ⟨cs, h⟩
end Go.Proofs.Ytghkngdcmlhmeaa.Ops

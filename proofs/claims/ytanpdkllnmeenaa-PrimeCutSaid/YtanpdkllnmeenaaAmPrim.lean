/- Functions of the library that are told otherwise: slices.Grow of nil. -/
import Derived.Test.YtanpdkllnmeenaaAmTop
import Derived.Shelf.Spec.SlicesGrow
namespace Go.Proofs.Ytanpdkllnmeenaa.Am
open Go Go.RowKit Go.Shelf
set_option linter.unusedVariables false
set_option linter.unusedSectionVars false
/-- A new row without elements. -/
def growF (e : TypeId) (t : Ty) : Pack → Option AV
  | ⟨[.one .nils, .one (.int .i64 n)], [], []⟩ => match decide (0 ≤ n) && decide (n < 1099511627776) with
    | true => some (.one (.own e t []))
    | false => none
  | _ => none
def growL {α : Type} (n : Int) : Option (List α) := match decide (0 ≤ n) && decide (n < 1099511627776) with
  | true => some []
  | false => none
theorem growF_eq {e : TypeId} {t : Ty} {n : Int} : growF e t ⟨[.one .nils, .one (.int .i64 n)], [], []⟩ = (growL n).map fun xs => .one (.own e t xs) := by
  unfold growF growL
  simp only []
  cases decide (0 ≤ n) && decide (n < 1099511627776) <;> rfl
theorem own_one {w w' : World} {F' : Nat → Prop} {e : TypeId} {t : Ty} {xs : List t.den} {v : Value} (hv : SlotOk (Fr w) F' w' (fun _ => none) [] (.row true e t xs) v) (h1 : v.oneCell' = true) : RepR (Fr w) F' w' (.one (.own e t xs)) v := by
  refine ⟨[v], rfl, fun j j' u u' g hu hu' _ _ => ?_, fun n β H hH hβ => ⟨?_, fun j s u hs hu => ?_⟩⟩
  · have h2 := (List.getElem?_eq_some_iff.1 hu).1
    have h3 := (List.getElem?_eq_some_iff.1 hu').1
    simp at h2 h3
    omega
  · have e0 := hβ 0 v rfl
    have e1 := hH 0 _ rfl
    rw [Nat.add_zero] at e0 e1
    simp only [adoptA, adopt1, RepA, RepV, e1]
    exact ⟨e0, h1⟩
  · cases j with
    | zero =>
      simp [adoptA, adopt1] at hs hu
      subst hs hu
      exact hv
    | succ j => simp at hu
theorem grow_ok {P : Program} {ρ : Ren} (L : Lays8.n4 P ρ) {e : TypeId} (he : ρ.t 25 = e) {t : Ty} {i : TypeInfo} {z : Value} (ek : EOk P e t i z) (hm : t.isMp = false) {p : Pack} {r : AV} (h : growF e t p = some r) : CallOK P (ρ.f 4) p r := by
  subst he
  unfold growF at h
  split at h
  case h_2 => simp at h
  rename_i n
  split at h
  case h_2 => simp at h
  rename_i hn
  injection h with h
  subst h
  simp at hn
  refine CallOK.of0 fun w F args hF hargs => ?_
  obtain ⟨args⟩ := args
  simp only at hargs
  match args, hargs with
  | [v0, v1], .cons r0 (.cons r1 .nil) =>
    have e0 : v0 = .slice none 0 0 := r0
    have e1 : v1 = .int .i64 n := r1
    subst e0 e1
    have hb := ek.bytes
    have hp := ek.pos
    left
    refine ⟨L.f4.enters rfl _ w, ?_⟩
    obtain ⟨m, rfl⟩ : ∃ m : Nat, n = m := ⟨n.toNat, by omega⟩
    by_cases hm0 : m = 0
    · subst hm0
      refine (Any8.slices_Grow_room L none 0 0 0 w (by omega) (by omega) (by omega) (by omega)).mono ?_
      rintro e w' ⟨rfl, rfl⟩
      refine ⟨_, F, rfl, Below.refl _ _, hF, fun g h _ => h, own_one ⟨⟨[], (owns_sl hm).2 ⟨by simp, .inl ⟨rfl, rfl⟩⟩, ⟨by simp, fun i x h => by simp at h⟩⟩, fun g h => by simp [blk] at h⟩ rfl⟩
    · have hmb : (0 + m) * i.bytes ≤ 140737488355328 := by
        have : (0 + m) * i.bytes ≤ (0 + m) * 64 := Nat.mul_le_mul_left _ hb
        omega
      refine (Any8.slices_Grow_grow L i z ek.info ek.zero (by rw [ek.size]; exact hp) none 0 0 m [] w (by omega) (by omega) hmb (by omega) (by simp) (fun _ => rfl) (fun a h => by simp at h)).mono ?_
      rintro e w' ⟨rfl, rfl⟩
      have hge := grownCap_ge w (0 + m) 0 (ρ.t 25)
      have hle := grownCap_le_maxLen w (0 + m) 0 (ρ.t 25) (by simp [maxLen]; omega)
      have hbel : Below w.heap.size w (w.drew.alloc (.cells ([].toArray ++ Builtin.zeroCells z.cells (0 + m - 0) ++ Builtin.zeroCells z.cells (grownCap w (0 + m) 0 (ρ.t 25) - (0 + m))) (ρ.t 25))) := ⟨rfl, rfl, rfl, by simp, fun k hk => heap_alloc_old w.drew _ hk⟩
      refine ⟨_, F, rfl, hbel, fun g h => Nat.lt_of_lt_of_le (hF g h) hbel.size, fun g h _ => h, own_one ⟨⟨[], (owns_sl hm).2 ⟨by simp, .inr ⟨w.heap.size, 0, _, _, rfl, heap_alloc_new w.drew _, Nat.zero_le _, hle, ?_, by simp⟩⟩, ⟨by simp, fun i x h => by simp at h⟩⟩, fun g h => ?_⟩ rfl⟩
      · simp only [Array.size_append, size_zeroCells, ek.zsize, List.size_toArray, List.length_nil]
        rw [Nat.zero_add, Nat.zero_add, Nat.zero_add, Nat.sub_zero, ← Nat.add_mul]
        refine Nat.mul_le_mul_right _ ?_
        simp at hge
        omega
      · simp [blk] at h
        subst h
        exact ⟨Nat.le_refl _, fun h => absurd (hF _ h) (by omega)⟩
end Go.Proofs.Ytanpdkllnmeenaa.Am

/- A range over slices.Backward of a row of words: the contract of the iterator. A range over slices.Backward of a row of rows: the contract of the iterator. A region that draws its order, in a round of a range over a function: walked in one order, as elsewhere. -/
import Derived.RangeFuncBox
import Derived.RangeFuncLeaves
import Derived.RangeFuncNested
import Derived.RangeFuncBound
import Derived.RangeFuncCalls
import Derived.Shelf.Abstract
import Derived.Shelf.RegionOpen
import Derived.WalkKit
import Derived.OwnWalkIn
import Derived.TacticsInMore
import Derived.LoopNIn
import Derived.LoopIn
import Derived.Lib.Hide
import Derived.Test.YtffcjgelcdilcaaField
import Derived.OrdersIn
import Derived.TacticsIn
import Derived.Test.YtffcjgelcdilcaaWLast
import Derived.Test.YtffcjgelcdilcaaWTab
set_option linter.unusedVariables false
set_option linter.unusedSimpArgs false
set_option linter.unusedSectionVars false
namespace Go.Proofs.Ytffcjgelcdilcaa.Rf
open Go.RowKit Go.Shelf Go.Proofs
attribute [local go_sem] Oper.semAt_some

def upto {α : Type} (f : Nat → α) (k : Nat) : List α := (List.range k).map f
theorem upto_succ {α : Type} (f : Nat → α) (k : Nat) : upto f (k + 1) = upto f k ++ [f k] := by simp [upto, List.range_succ]
theorem upto_length {α : Type} (f : Nat → α) (k : Nat) : (upto f k).length = k := by simp [upto]

theorem add_block (a : Addr) (n : Nat) : (a.add n).block = a.block := by unfold Addr.add; split <;> rfl
/-- What a round leaves as it was: all below n₀, and the variable at Bs. -/
def KB (n₀ Bs : Nat) (W W' : World) : Prop := Below n₀ W W' ∧ ∀ v, W.cell? ⟨Bs, 0, none⟩ = some v → W'.cell? ⟨Bs, 0, none⟩ = some v
theorem KB.refl (n₀ Bs : Nat) (W : World) : KB n₀ Bs W W := ⟨Below.refl _ _, fun _ h => h⟩
theorem KB.trans {n₀ Bs : Nat} {A B C : World} (h1 : KB n₀ Bs A B) (h2 : KB n₀ Bs B C) : KB n₀ Bs A C := ⟨h1.1.trans h2.1, fun v h => h2.2 v (h1.2 v h)⟩
theorem KB.put {n₀ Bs : Nat} {w0 : World} (hn : n₀ ≤ w0.heap.size) (W : World) (l : Nat) (o o' : Obj) (hl : w0.heap.size ≤ l) (h : W.heap[l]? = some o) (hc : o.isCells = false) (hw : o.isWalk = false) : KB n₀ Bs W (W.putObj l o') :=
  ⟨belowK_b hn W l o o' hl h hc hw, fun v hv => cell_kept hv (grownBy_putObj' _ l o') (fun r e => by cases e; exact ⟨_, h, hc⟩)⟩

set_option maxRecDepth 100000 in
set_option maxHeartbeats 2000000 in
theorem backward1_in (F : Fence) (n : Nat) (h7 : F.fn 78) (hro : F.round = none) (hn : 1 ≤ n) (l Bs n₀ : Nat) (ad : Addr) (len cap : Nat) (zs : List Int) (hreach : len * 8 ≤ 140737488351232) (hb : ad.block < n₀) (J Jx : List Nat → World → Prop)
    (hY : ∀ pre (x : Nat) W, J pre W → pre.length < len → YieldAt F (n - 1) Try.prog l #[.int .i64 (x : Int), .int .u64 (zs[x]?.getD 0)] W fun e W' =>
      (e = .returned (.bool true) ∧ J (pre ++ [x]) W' ∧ KB n₀ Bs W W') ∨ (e = .returned (.bool false) ∧ Jx (pre ++ [x]) W'))
    (W : World) (hBs : W.cell? ⟨Bs, 0, none⟩ = some (.slice (some ad) len cap)) (hc : ∀ j, j < len → W.cell? (ad.add j) = some (.int .u64 (zs[j]?.getD 0))) (h0 : J [] W) :
    CallsIn F n Try.prog 78 #[.func (.yield l) #[] #[], .pointer (some ⟨Bs, 0, none⟩)] W fun e W' => (∃ v, e = .returned v) ∧
      ((∃ ys, ys = upto (fun j => len - 1 - j) len ∧ J ys W') ∨ (∃ pre, (∃ k, k ≤ len ∧ pre = upto (fun j => len - 1 - j) k) ∧ Jx pre W')) := by
  refine callsIn_of_wp Try.func78 rfl h7 ?_ hro
  simp only [Try.ntmps78, List.size_toArray, List.length_cons, List.length_nil, Nat.reduceAdd, Nat.reduceSub, Array.replicate_succ, Array.replicate_zero, List.push_toArray, List.append_toArray, List.nil_append, List.cons_append]
  gi_wp2
  gi_loopw [3] (fun i wr => ∃ k : Nat, k ≤ len ∧ i = .int .i64 ((len : Int) - 1 - k) ∧ J (upto (fun j => len - 1 - j) k) wr ∧ KB n₀ Bs W wr)
    (fun i _ => (intOf i + 1).toNat)
  case atStart => exact ⟨0, Nat.zero_le _, by simp, h0, KB.refl _ _ _⟩
  case round =>
    obtain ⟨k, hk, rfl, hJs, hnx⟩ := hrel
    by_cases hlt : k < len
    · obtain ⟨m, hm⟩ : ∃ m : Nat, m = len - 1 - k := ⟨_, rfl⟩
      have hm' : (len : Int) - 1 - k = m := by omega
      rw [hm']
      obtain ⟨fn, tmps, assign, body, hy, hR⟩ := hY _ m wr hJs (by rw [upto_length]; exact hlt)
      have hB2 : wr.cell? ⟨Bs, 0, none⟩ = some (.slice (some ad) len cap) := hnx.2 _ hBs
      have hcx : wr.cell? (ad.add m) = some (.int .u64 (zs[m]?.getD 0)) := (hnx.1.cell (p := ad.add m) (by rw [add_block]; exact hb)).trans (hc m (by omega))
      have hml : m < len := by omega
      have HM := Lib.hid hm
      clear hm hm'
      gi_wp2
      refine hR.mono ?_
      rintro e W3 (⟨rfl, hJ3, hk3⟩ | ⟨rfl, hJx3⟩)
      · gi_wp2
        go_roundw
        case rel => exact ⟨k + 1, by omega, by have := HM.out; simp; omega, by rw [upto_succ, ← HM.out]; exact hJ3, hnx.trans hk3⟩
        case measure => simp [intOf]
      · gi_wp2
        refine bodyPost_ret (results_none rfl _ _ _) rfl ?_
        exact ⟨⟨_, rfl⟩, .inr ⟨_, ⟨k + 1, by omega, by rw [upto_succ, ← HM.out]⟩, hJx3⟩⟩
    · obtain rfl : k = len := by omega
      have hm' : (k : Int) - 1 - k = -1 := by omega
      rw [hm']
      gi_wp2
      go_end0
      exact ⟨⟨_, rfl⟩, .inl ⟨_, rfl, hJs⟩⟩

theorem upto_back (len : Nat) (zs : List Int) (h : zs.length = len) : (upto (fun j => len - 1 - j) len).map (fun i => zs[i]?.getD 0) = zs.reverse := by
  apply List.ext_getElem
  · simp [upto, h]
  · intro i h1 h2
    have hi : i < len := by simp [upto] at h1; exact h1
    simp only [upto, List.getElem_map, List.getElem_range, List.getElem_reverse]
    rw [List.getElem?_eq_getElem (by omega)]
    simp only [Option.getD_some]
    congr 1
    omega

/-- The slice value sv holds the words zs, in a block below n₀; or there are none. -/
def Ws (n₀ : Nat) (W : World) (sv : Value) (zs : List Int) : Prop :=
  (∃ a c, sv = .slice a 0 c ∧ zs = []) ∨ ∃ ad cap, sv = .slice (some ad) zs.length cap ∧ ad.block < n₀ ∧ ∀ j, j < zs.length → W.cell? (ad.add j) = some (.int .u64 (zs[j]?.getD 0))
theorem Ws.below {n₀ : Nat} {A B : World} (h : Below n₀ A B) {sv : Value} {zs : List Int} : Ws n₀ A sv zs → Ws n₀ B sv zs
  | .inl e => .inl e
  | .inr ⟨ad, cap, e, hb, hc⟩ => .inr ⟨ad, cap, e, hb, fun j hj => (h.cell (p := ad.add j) (by rw [add_block]; exact hb)).trans (hc j hj)⟩

set_option maxRecDepth 100000 in
set_option maxHeartbeats 1000000 in
theorem backward1_nil_in (F : Fence) (n : Nat) (h7 : F.fn 78) (hro : F.round = none) (l Bs : Nat) (J : List Nat → World → Prop) (W : World) (a : Option Addr) (c : Nat) (hBs : W.cell? ⟨Bs, 0, none⟩ = some (.slice a 0 c)) (h0 : J [] W) :
    CallsIn F n Try.prog 78 #[.func (.yield l) #[] #[], .pointer (some ⟨Bs, 0, none⟩)] W fun e W' => (∃ v, e = .returned v) ∧ J [] W' := by
  refine callsIn_of_wp Try.func78 rfl h7 ?_ hro
  simp only [Try.ntmps78, List.size_toArray, List.length_cons, List.length_nil, Nat.reduceAdd, Nat.reduceSub, Array.replicate_succ, Array.replicate_zero, List.push_toArray, List.append_toArray, List.nil_append, List.cons_append]
  gi_wp2
  gi_loopw [3] (fun i wr => i = .int .i64 (-1) ∧ J [] wr) (fun _ _ => 0)
  case atStart => exact ⟨by simp, h0⟩
  case round =>
    obtain ⟨rfl, hJs⟩ := hrel
    gi_wp2
    go_end0
    exact ⟨⟨_, rfl⟩, hJs⟩

set_option maxHeartbeats 1000000 in
theorem backward_calls (a : Option Addr) (len cap : Nat) (w : World) :
    Calls Try.prog 64 #[.slice a len cap] w fun e w' => e = .returned (.func (.func 78) #[] #[.pointer (some ⟨w.heap.size, 0, none⟩)]) ∧ w' = w.alloc (.cells #[.slice a len cap] 23) := by
  have hmf : ∀ (fn : Fn) (first cap : Array Value) (w : World), (Instr.makeFunc fn first cap).run Try.prog w = .ok (.func fn first cap) w := fun _ _ _ _ => rfl
  go_enter Try.func64, Try.ntmps64
  go_wp2
  go_ret
  exact ⟨rfl, rfl⟩

theorem backward_stops (F : Fence) (n : Nat) (h7 : F.fn 78) (hro : F.round = none) (hn : 1 ≤ n) (Bs n₀ : Nat) (sv : Value) (zs : List Int) (hreach : zs.length * 8 ≤ 140737488351232) (w : World) (hBs : Bs < w.heap.size) (hn₀ : n₀ ≤ w.heap.size)
    (hc : w.cell? ⟨Bs, 0, none⟩ = some sv) (hI : Ws n₀ w sv zs) :
    SeqStopsK F n Try.prog 78 #[.pointer (some ⟨Bs, 0, none⟩)] (fun x : Nat => #[Value.int .i64 (x : Int), Value.int .u64 (zs[x]?.getD 0)]) (KB n₀ Bs) (fun ys => ys = upto (fun j => zs.length - 1 - j) zs.length) (fun _ => True) zs.length w := fun l J Jx W hW _ _ hY h0 => by
  have hc' := (hW.cell (p := ⟨Bs, 0, none⟩) hBs).trans hc
  rcases hI.below (hW.mono hn₀) with ⟨a, c, rfl, rfl⟩ | ⟨ad, cap, rfl, hb, hcs⟩
  · exact (backward1_nil_in F n h7 hro l Bs J W a c hc' h0).mono fun e W' ⟨he, hj⟩ => ⟨he, .inl ⟨_, rfl, hj⟩⟩
  · refine (backward1_in F n h7 hro hn l Bs n₀ ad zs.length cap zs hreach hb J Jx hY W hc' hcs h0).mono ?_
    rintro e W' ⟨he, ⟨ys, rfl, hj⟩ | ⟨pre, ⟨k, hk, rfl⟩, hj⟩⟩
    · exact ⟨he, .inl ⟨_, rfl, hj⟩⟩
    · exact ⟨he, .inr ⟨_, trivial, hj⟩⟩
end Go.Proofs.Ytffcjgelcdilcaa.Rf

namespace Go.Proofs.Ytffcjgelcdilcaa.Rg
open Go.Proofs.Ytffcjgelcdilcaa.Rf Go.RowKit Go.Shelf Go.Proofs
attribute [local go_sem] Oper.semAt_some

set_option maxRecDepth 100000 in
set_option maxHeartbeats 2000000 in
theorem backward1_in (F : Fence) (n : Nat) (h7 : F.fn 79) (hro : F.round = none) (hn : 1 ≤ n) (l Bs n₀ : Nat) (ad : Addr) (len cap : Nat) (vs : Nat → Value) (hreach : len * 24 ≤ 140737488351232) (hb : ad.block < n₀) (J Jx : List Nat → World → Prop)
    (hY : ∀ pre (x : Nat) W, J pre W → pre.length < len → YieldAt F (n - 1) Try.prog l #[.int .i64 (x : Int), vs x] W fun e W' =>
      (e = .returned (.bool true) ∧ J (pre ++ [x]) W' ∧ KB n₀ Bs W W') ∨ (e = .returned (.bool false) ∧ Jx (pre ++ [x]) W'))
    (W : World) (hBs : W.cell? ⟨Bs, 0, none⟩ = some (.slice (some ad) len cap)) (hc : ∀ j, j < len → W.cell? (ad.add j) = some (vs j)) (h0 : J [] W) :
    CallsIn F n Try.prog 79 #[.func (.yield l) #[] #[], .pointer (some ⟨Bs, 0, none⟩)] W fun e W' => (∃ v, e = .returned v) ∧
      ((∃ ys, ys = upto (fun j => len - 1 - j) len ∧ J ys W') ∨ (∃ pre, (∃ k, k ≤ len ∧ pre = upto (fun j => len - 1 - j) k) ∧ Jx pre W')) := by
  refine callsIn_of_wp Try.func79 rfl h7 ?_ hro
  simp only [Try.ntmps79, List.size_toArray, List.length_cons, List.length_nil, Nat.reduceAdd, Nat.reduceSub, Array.replicate_succ, Array.replicate_zero, List.push_toArray, List.append_toArray, List.nil_append, List.cons_append]
  gi_wp2
  gi_loopw [3] (fun i wr => ∃ k : Nat, k ≤ len ∧ i = .int .i64 ((len : Int) - 1 - k) ∧ J (upto (fun j => len - 1 - j) k) wr ∧ KB n₀ Bs W wr)
    (fun i _ => (intOf i + 1).toNat)
  case atStart => exact ⟨0, Nat.zero_le _, by simp, h0, KB.refl _ _ _⟩
  case round =>
    obtain ⟨k, hk, rfl, hJs, hnx⟩ := hrel
    by_cases hlt : k < len
    · obtain ⟨m, hm⟩ : ∃ m : Nat, m = len - 1 - k := ⟨_, rfl⟩
      have hm' : (len : Int) - 1 - k = m := by omega
      rw [hm']
      obtain ⟨fn, tmps, assign, body, hy, hR⟩ := hY _ m wr hJs (by rw [upto_length]; exact hlt)
      have hB2 : wr.cell? ⟨Bs, 0, none⟩ = some (.slice (some ad) len cap) := hnx.2 _ hBs
      have hcx : wr.cell? (ad.add m) = some (vs m) := (hnx.1.cell (p := ad.add m) (by rw [add_block]; exact hb)).trans (hc m (by omega))
      have hml : m < len := by omega
      have HM := Lib.hid hm
      clear hm hm'
      gi_wp2
      refine hR.mono ?_
      rintro e W3 (⟨rfl, hJ3, hk3⟩ | ⟨rfl, hJx3⟩)
      · gi_wp2
        go_roundw
        case rel => exact ⟨k + 1, by omega, by have := HM.out; simp; omega, by rw [upto_succ, ← HM.out]; exact hJ3, hnx.trans hk3⟩
        case measure => simp [intOf]
      · gi_wp2
        refine bodyPost_ret (results_none rfl _ _ _) rfl ?_
        exact ⟨⟨_, rfl⟩, .inr ⟨_, ⟨k + 1, by omega, by rw [upto_succ, ← HM.out]⟩, hJx3⟩⟩
    · obtain rfl : k = len := by omega
      have hm' : (k : Int) - 1 - k = -1 := by omega
      rw [hm']
      gi_wp2
      go_end0
      exact ⟨⟨_, rfl⟩, .inl ⟨_, rfl, hJs⟩⟩

/-- The slice value sv holds n values vs, in a block below n₀; or there are none. -/
def Vs (n₀ : Nat) (W : World) (sv : Value) (n : Nat) (vs : Nat → Value) : Prop :=
  (∃ a c, sv = .slice a 0 c ∧ n = 0) ∨ ∃ ad cap, sv = .slice (some ad) n cap ∧ ad.block < n₀ ∧ ∀ j, j < n → W.cell? (ad.add j) = some (vs j)
theorem Vs.below {n₀ : Nat} {A B : World} (h : Below n₀ A B) {sv : Value} {n : Nat} {vs : Nat → Value} : Vs n₀ A sv n vs → Vs n₀ B sv n vs
  | .inl e => .inl e
  | .inr ⟨ad, cap, e, hb, hc⟩ => .inr ⟨ad, cap, e, hb, fun j hj => (h.cell (p := ad.add j) (by rw [add_block]; exact hb)).trans (hc j hj)⟩

set_option maxRecDepth 100000 in
set_option maxHeartbeats 1000000 in
theorem backward1_nil_in (F : Fence) (n : Nat) (h7 : F.fn 79) (hro : F.round = none) (l Bs : Nat) (J : List Nat → World → Prop) (W : World) (a : Option Addr) (c : Nat) (hBs : W.cell? ⟨Bs, 0, none⟩ = some (.slice a 0 c)) (h0 : J [] W) :
    CallsIn F n Try.prog 79 #[.func (.yield l) #[] #[], .pointer (some ⟨Bs, 0, none⟩)] W fun e W' => (∃ v, e = .returned v) ∧ J [] W' := by
  refine callsIn_of_wp Try.func79 rfl h7 ?_ hro
  simp only [Try.ntmps79, List.size_toArray, List.length_cons, List.length_nil, Nat.reduceAdd, Nat.reduceSub, Array.replicate_succ, Array.replicate_zero, List.push_toArray, List.append_toArray, List.nil_append, List.cons_append]
  gi_wp2
  gi_loopw [3] (fun i wr => i = .int .i64 (-1) ∧ J [] wr) (fun _ _ => 0)
  case atStart => exact ⟨by simp, h0⟩
  case round =>
    obtain ⟨rfl, hJs⟩ := hrel
    gi_wp2
    go_end0
    exact ⟨⟨_, rfl⟩, hJs⟩

set_option maxHeartbeats 1000000 in
theorem backward_calls (a : Option Addr) (len cap : Nat) (w : World) :
    Calls Try.prog 69 #[.slice a len cap] w fun e w' => e = .returned (.func (.func 79) #[] #[.pointer (some ⟨w.heap.size, 0, none⟩)]) ∧ w' = w.alloc (.cells #[.slice a len cap] 69) := by
  have hmf : ∀ (fn : Fn) (first cap : Array Value) (w : World), (Instr.makeFunc fn first cap).run Try.prog w = .ok (.func fn first cap) w := fun _ _ _ _ => rfl
  go_enter Try.func69, Try.ntmps69
  go_wp2
  go_ret
  exact ⟨rfl, rfl⟩

theorem backward_stops (F : Fence) (n : Nat) (h7 : F.fn 79) (hro : F.round = none) (hn : 1 ≤ n) (Bs n₀ : Nat) (sv : Value) (len : Nat) (vs : Nat → Value) (hreach : len * 24 ≤ 140737488351232) (w : World) (hBs : Bs < w.heap.size) (hn₀ : n₀ ≤ w.heap.size)
    (hc : w.cell? ⟨Bs, 0, none⟩ = some sv) (hI : Vs n₀ w sv len vs) :
    SeqStopsK F n Try.prog 79 #[.pointer (some ⟨Bs, 0, none⟩)] (fun x : Nat => #[Value.int .i64 (x : Int), vs x]) (KB n₀ Bs) (fun ys => ys = upto (fun j => len - 1 - j) len) (fun _ => True) len w := fun l J Jx W hW _ _ hY h0 => by
  have hc' := (hW.cell (p := ⟨Bs, 0, none⟩) hBs).trans hc
  rcases hI.below (hW.mono hn₀) with ⟨a, c, rfl, rfl⟩ | ⟨ad, cap, rfl, hb, hcs⟩
  · exact (backward1_nil_in F n h7 hro l Bs J W a c hc' h0).mono fun e W' ⟨he, hj⟩ => ⟨he, .inl ⟨_, rfl, hj⟩⟩
  · refine (backward1_in F n h7 hro hn l Bs n₀ ad len cap vs hreach hb J Jx hY W hc' hcs h0).mono ?_
    rintro e W' ⟨he, ⟨ys, rfl, hj⟩ | ⟨pre, ⟨k, hk, rfl⟩, hj⟩⟩
    · exact ⟨he, .inl ⟨_, rfl, hj⟩⟩
    · exact ⟨he, .inr ⟨_, trivial, hj⟩⟩
end Go.Proofs.Ytffcjgelcdilcaa.Rg

namespace Go.Proofs.Ytffcjgelcdilcaa.Rd
open Go.Proofs.YtffcjgelcdilcaaW.PrintLast

section
variable {P : Program} {ops : Array Oper} {Q : Exit → Act → World → Prop} {md : Region.Mode}

theorem rows_wide {n : Nat} {l : Nat} {row : String} {args : Array Value} {w : World} {R : Value → World → Prop} (h : Rows P row args w R) : RowsIn (Fence.wide.inRound l) n P row args w R :=
  fun c cs _ => let ⟨v, w', r, s⟩ := h c cs; ⟨v, w', r, (stepsIn_wide (P := P)).2 s⟩

theorem op_inRound {l n : Nat} {o : Oper} {a : Act} {w : World} {K : Act → World → Prop} (hnd : ∀ c, o.op ≠ .defer c) (h : o.wp P a w K Q) : o.wpIn (Fence.wide.inRound l) n P a w K Q := by
  refine ⟨fun _ _ => trivial, ?_⟩
  have e : (Fence.wide.inRound l).round = some l := rfl
  rw [e, Oper.semAt_some l _ _ hnd]
  unfold Oper.wp at h
  generalize (execOp a.eval o).run P w = r at h
  cases r with
  | ok x w' =>
    cases x <;> simp only [Oper.upon, Oper.uponIn] at h ⊢ <;>
      first
        | exact h
        | exact ⟨fun h0 => (by cases h0), CallsIn.inRound l (callsIn_wide.2 (h.mono (fun e w'' he => by cases e <;> exact he)))⟩
        | exact ⟨fun h0 => (by cases h0), rows_wide h⟩
  | halt x w' => cases x <;> simp only [Oper.upon, Oper.uponIn] at h ⊢ <;> exact h

def noDefer (ops : Array Oper) : Bool := ops.all fun o => match o.op with
  | .defer _ => false
  | _ => true
theorem noDefer_spec (h : noDefer ops = true) {i : Nat} {o : Oper} (ho : ops[i]? = some o) : ∀ c, o.op ≠ .defer c := by
  intro c hc
  have h1 := Array.all_eq_true_iff_forall_mem.1 h o (Array.mem_of_getElem? ho)
  rw [hc] at h1
  cases h1

theorem wpOp_inRound {l n i : Nat} {a : Act} {w : World} {K K' : Act → World → Prop} (hd : noDefer ops = true) (hQ : ¬ LetsOut Q) (hK : ∀ a w, K a w → K' a w) (h : wpOp P ops Q i K a w) : wpOpIn (Fence.wide.inRound l) n P ops Q i K' a w := by
  unfold wpOp at h
  unfold wpOpIn
  cases ho : ops[i]? with
  | none => rw [ho] at h; exact hK _ _ h
  | some o =>
    rw [ho] at h
    simp only at h ⊢
    split
    · rename_i hw
      rw [if_pos hw] at h
      rcases h with h | h
      · exact Oper.wpIn_mono hK (op_inRound (noDefer_spec hd ho) h)
      · exact absurd h.2 hQ
    · rename_i hw
      rw [if_neg hw] at h
      exact ⟨fun _ _ => trivial, hK _ _ h⟩

theorem wpAny_inRound {l n : Nat} (hd : noDefer ops = true) (hQ : ¬ LetsOut Q) : ∀ (fuel : Nat) (listed : Array Bool) (a : Act) (w : World), wpAny P md ops Q fuel listed a w → wpAnyIn (Fence.wide.inRound l) n P md ops Q fuel listed a w
  | 0, _, _, _, h => h
  | fuel + 1, _, _, _, h => ⟨h.1, fun i hi => wpOp_inRound hd hQ (fun a w => wpAny_inRound hd hQ fuel _ a w) (h.2 i hi)⟩

theorem startR_ {S : World → Prop} {ds : List Nat} {id n l m : Nat} {a : Act} {w : World} (L : Array Bool) (hm : P.follows .mixedOrders = true) (hd : noDefer ops = true) (hQ : ¬ LetsOut Q) (hn : ops.size = n) (hl : Array.replicate n false = L) (hS : S w.drew)
    (h : S w.drew → wpAnyLast P .any ops Q S ds n L a w.drew) : (Code.region id ops true).wpIn (Fence.wide.inRound l) m P Q a w := by
  subst hn
  subst hl
  exact wpIn_region_any hm (wpAny_inRound hd hQ _ _ _ _ (wpAny_of_last _ _ _ _ (h hS)))
end
end Go.Proofs.Ytffcjgelcdilcaa.Rd

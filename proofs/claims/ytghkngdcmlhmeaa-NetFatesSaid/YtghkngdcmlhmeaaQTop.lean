/- The queue's exported functions. -/
import Derived.Test.YtghkngdcmlhmeaaQLt
import Derived.Test.YtghkngdcmlhmeaaPQux4
set_option linter.unusedVariables false
set_option linter.unusedSimpArgs false
set_option linter.unusedSectionVars false
namespace Go.Proofs.Ytghkngdcmlhmeaa.Qp
open Go.RowKit Go.Proofs Go.Proofs.Ytghkngdcmlhmeaa.PQu Go.Proofs.YtghkngdcmlhmeaaW.PrintWords Go.Proofs.YtghkngdcmlhmeaaW.PrintLast Go.Proofs.YtghkngdcmlhmeaaW.PrintMore
theorem FK_below2 {α : Type} {d : Kd α} {w W : World} {ok : Nat → Prop} {x : α} {c : List Value} (h : Kd.FK d w ok x c) (hb : Below w.heap.size w W) : Kd.FK d W ok x c := Kd.FK_below h hb
def goodB (x : S25) : Bool := decide (x.f3.length < 140737488355328) && x.f3.all (fun c => decide (0 ≤ c) && decide (c ≤ 255))
theorem goodB_iff {x : S25} : goodB x = true ↔ good x := by
  simp [goodB, good]
def bndB (l : List S25) : Bool := decide (l.length < 1099511627775) && l.all goodB
theorem bndB_iff {l : List S25} : bndB l = true ↔ l.length < 1099511627775 ∧ ∀ x ∈ l, good x := by
  unfold bndB
  rw [Bool.and_eq_true, decide_eq_true_iff, List.all_eq_true]
  exact ⟨fun h => ⟨h.1, fun x hx => goodB_iff.mp (h.2 x hx)⟩, fun h => ⟨h.1, fun x hx => goodB_iff.mpr (h.2 x hx)⟩⟩
theorem func_at {f : FuncId} {fn : Func} (h : Try.prog.funcs[f]? = some fn) : Try.prog.funcs[f]? = some fn := h
theorem all_such (W : World) (x : S25) (A3 : Option Addr) (c3 : Nat) (hl : x.f3.length ≤ c3) (hC : Kd.C (Kd.int .u8) W A3 x.f3.length x.f3) : Calls Try.prog 32 (#[.agg #[.int .i64 x.f0, .int .i64 x.f1, .int .i64 x.f2, .slice A3 x.f3.length c3]] ++ #[]) W fun e w' => e = .returned (.bool ((fun _ : S25 => true) x)) ∧ Below W.heap.size W w' := by
  rw [Array.append_empty]
  exact queue_all.calls _ _ _ A3 c3 _ true W hC hl rfl
/-- All that is left is taken, in order. -/
theorem rest.calls {w W : World} {Pb : Nat} {S : Nat → Prop} {v : Value} {l m : List S25} (h : Pile w W Pb S v m) (hk : Hp.Ok ltL z25 m m.length 0) (hp : m.Perm l) (hl : l.length < 1099511627776) (hg : ∀ x ∈ l, good x) :
    Calls Try.prog 30 #[.pointer (some ⟨Pb, 0, none⟩), .func (.func 32) #[] #[]] W fun e w' => ∃ vo, e = .returned vo ∧ Kd.R k25 25 w' W.heap.size (fun _ => True) vo (Hp.srt ltL l) ∧ Below w.heap.size w w' ∧ Kept W w' (fun k => k = Pb ∨ some k = v.ownBlock) := by
  refine (taken.calls h (fun _ => true) 32 _ #[] Try.func32 (by kernel_rfl) rfl (fun W' _ x A3 c3 h1 h2 => all_such W' x A3 c3 h1 h2) m.length (Nat.le_refl _) (by rw [hp.length_eq]; exact hl) (fun x hx => (hg x (hp.mem_iff.mp hx)).1)).mono ?_
  rintro e w' ⟨vo, v', rfl, hR, hP, ho, hK⟩
  rw [taken_all l hg hk hp m.length (Nat.le_refl _)] at hR
  exact ⟨vo, rfl, hR, hP.below, hK⟩
theorem V_of {w W w' : World} {vo : Value} {r : List S25} (hW : w.heap.size ≤ W.heap.size) (hR : Kd.R k25 25 w' W.heap.size (fun _ => True) vo r) : Kd.V k25 25 w' w.heap.size (fun k_ => (w.heap.size ≤ k_)) vo r :=
  Kd.R_V (base := W.heap.size) (Kd.R_mono (Kd.R_bound hR) (fun k hk => Nat.le_trans hW hk.2.1))
def srtF (l : List S25) : Option (List S25) := if bndB l = true then some (Hp.srt ltL l) else none
def SrtPost (w : World) (r : List S25) (e : Ending) (w' : World) : Prop := ∃ v0_ : Value, e = .returned (v0_) ∧ Kd.V k25 25 w' w.heap.size (fun k_ => (w.heap.size ≤ k_)) v0_ r ∧ Below w.heap.size w w'
set_option maxHeartbeats 4000000 in
set_option maxRecDepth 100000 in
theorem sorted.calls (A : Option Addr) (c : Nat) (l r : List S25) (w : World) (hr : Kd.C k25 w A l.length l) (hc : l.length ≤ c) (h : srtF l = some r) :
    Calls Try.prog 18 #[.slice A l.length c] w (SrtPost w r) := by
  unfold srtF at h
  split at h
  case isFalse => cases h
  rename_i hb
  obtain rfl := Option.some.inj h
  have HB := Aside0.mk (bndB_iff.mp hb)
  have HR := Aside0.mk (And.intro hr hc)
  clear h hb hr hc
  go_enter Try.func18, Try.ntmps18
  go_wp2_with ((with_reducible refine gate_dst (N := 4) rfl ?_); refine Aside0.out (p := _) ?_)
  refine Aside0.mk ?_
  refine goesL_ (some 4) rfl rfl Try.func29 (by kernel_rfl) rfl #[.slice A l.length c] rfl (by (try simp only [List.map_toArray, List.map_cons, List.map_nil, List.append_toArray, List.cons_append, List.nil_append]); first | done | rfl) ?_
  refine (piled.calls w A c l HR.out.1 HR.out.2 (by have := HB.out.1; omega)).mono ?_
  rintro e w1 ⟨Pb, S, v, rfl, hP, hb1, hS⟩
  refine ⟨_, rfl, ?_⟩
  have HP := Aside0.mk hP
  clear hP hb1 hS
  go_wp2_with ((with_reducible refine gate_dst (N := 5) rfl ?_); refine Aside0.out (p := _) ?_)
  refine Aside0.mk ?_
  refine goesL_ (some 5) rfl rfl Try.func30 (by kernel_rfl) rfl #[.pointer (some ⟨Pb, 0, none⟩), .func (.func 32) #[] #[]] rfl (by (try simp only [List.map_toArray, List.map_cons, List.map_nil, List.append_toArray, List.cons_append, List.nil_append]); first | done | rfl) ?_
  refine (rest.calls HP.out (by rw [Hp.heaped_length]; exact Hp.heaped_ok lt_asym lt_trans' l) (Hp.heaped_perm l) (by have := HB.out.1; omega) HB.out.2).mono ?_
  rintro e w2 ⟨vo, rfl, hR, hb2, _⟩
  refine ⟨_, rfl, ?_⟩
  have HX := Aside0.mk (show SrtPost w (Hp.srt ltL l) (.returned vo) w2 from ⟨vo, rfl, V_of HP.out.below.size hR, hb2⟩)
  clear hR hb2
  go_wp2
  go_ret
  exact HX.out
def putF (l : List S25) (x : S25) : Option (List S25) := if bndB (x :: l) = true then some (Hp.srt ltL (x :: l)) else none
set_option maxHeartbeats 4000000 in
set_option maxRecDepth 100000 in
theorem put.calls (A : Option Addr) (c : Nat) (l : List S25) (x : S25) (A3 : Option Addr) (c3 : Nat) (r : List S25) (w : World) (hr : Kd.C k25 w A l.length l) (hc : l.length ≤ c) (hr3 : Kd.C (Kd.int .u8) w A3 x.f3.length x.f3) (hc3 : x.f3.length ≤ c3) (h : putF l x = some r) :
    Calls Try.prog 19 #[.slice A l.length c, .agg #[.int .i64 x.f0, .int .i64 x.f1, .int .i64 x.f2, .slice A3 x.f3.length c3]] w (SrtPost w r) := by
  unfold putF at h
  split at h
  case isFalse => cases h
  rename_i hb
  obtain rfl := Option.some.inj h
  have hu25 := Try.underlying25
  have HB := Aside0.mk (bndB_iff.mp hb)
  have HR := Aside0.mk (And.intro hr hc)
  have HR3 := Aside0.mk (And.intro hr3 hc3)
  clear h hb hr hc hr3 hc3
  go_enter Try.func19, Try.ntmps19
  go_wp2_with ((with_reducible refine gate_dst (N := 7) rfl ?_); refine Aside0.out (p := _) ?_)
  refine Aside0.mk ?_
  refine goesL_ (some 7) rfl rfl Try.func29 (by kernel_rfl) rfl #[.slice A l.length c] rfl (by (try simp only [List.map_toArray, List.map_cons, List.map_nil, List.append_toArray, List.cons_append, List.nil_append]); first | done | rfl) ?_
  have hbx := below_alloc (Below.refl w.heap.size w) (.cells #[.int .i64 x.f0, .int .i64 x.f1, .int .i64 x.f2, .slice A3 x.f3.length c3] 25)
  have hln : l.length < 1099511627774 := by have := HB.out.1; simp at this; omega
  refine (piled.calls _ A c l (Kd.C_below HR.out.1 hbx) HR.out.2 (by omega)).mono ?_
  rintro e w1 ⟨Pb, S, v, rfl, hP, hb1, hS⟩
  refine ⟨_, rfl, ?_⟩
  have hx1 : w1.heap[w.heap.size]? = some (.cells #[.int .i64 x.f0, .int .i64 x.f1, .int .i64 x.f2, .slice A3 x.f3.length c3] 25 (0, 0)) := (hb1.block w.heap.size (by simp)).trans (blk_new w _)
  have l0 : w1.cell? ⟨w.heap.size, 0, none⟩ = some (.int .i64 x.f0) := blk_cell hx1 0
  have l1 : w1.cell? ⟨w.heap.size, 1, none⟩ = some (.int .i64 x.f1) := blk_cell hx1 1
  have l2 : w1.cell? ⟨w.heap.size, 2, none⟩ = some (.int .i64 x.f2) := blk_cell hx1 2
  have l3 : w1.cell? ⟨w.heap.size, 3, none⟩ = some (.slice A3 x.f3.length c3) := blk_cell hx1 3
  have HP := Aside0.mk (And.intro hP hS)
  have HBB := Aside0.mk (hbx.trans (hb1.mono hbx.size))
  have HL := Aside0.mk hln
  clear hP hb1 hS hx1 hbx hln
  go_wp2_with ((with_reducible refine gate_dst (N := 12) rfl ?_); refine Aside0.out (p := _) ?_)
  refine Aside0.mk ?_
  refine goesL_ (some 12) rfl rfl Try.func36 (by kernel_rfl) rfl #[.iface 60 (.pointer (some ⟨Pb, 0, none⟩)), .iface 25 (.agg #[.int .i64 x.f0, .int .i64 x.f1, .int .i64 x.f2, .slice A3 x.f3.length c3])] rfl (by (try simp only [List.map_toArray, List.map_cons, List.map_nil, List.append_toArray, List.cons_append, List.nil_append]); first | done | rfl) ?_
  have hFx : Kd.FK k25 w1 (fun k => k < w.heap.size) x [.int .i64 x.f0, .int .i64 x.f1, .int .i64 x.f2, .slice A3 x.f3.length c3] := FK_below2 (k25_mkF w _ x HR3.out.2 (Kd.C_F (Kd.heap_int .u8) HR3.out.1)) HBB.out
  refine (hpush.calls HP.out.1 x A3 c3 hFx (fun k hk => HP.out.2 k (by have : k < w.heap.size := hk; simp; omega)) (by rw [Hp.heaped_length]; have := HL.out; omega)).mono ?_
  rintro e w2 ⟨rfl, S2, v2, hP2, hK2, ho2⟩
  refine ⟨_, rfl, ?_⟩
  have HP2 := Aside0.mk hP2
  clear hP2 hK2 ho2 l0 l1 l2 l3 hFx
  go_wp2_with ((with_reducible refine gate_dst (N := 14) rfl ?_); refine Aside0.out (p := _) ?_)
  refine Aside0.mk ?_
  refine goesL_ (some 14) rfl rfl Try.func30 (by kernel_rfl) rfl #[.pointer (some ⟨Pb, 0, none⟩), .func (.func 32) #[] #[]] rfl (by (try simp only [List.map_toArray, List.map_cons, List.map_nil, List.append_toArray, List.cons_append, List.nil_append]); first | done | rfl) ?_
  have hlen : (Hp.pushed ltL z25 (Hp.heaped ltL z25 l) x).length = l.length + 1 := by rw [(Hp.pushed_perm _ _).length_eq, List.length_cons, Hp.heaped_length]
  refine (rest.calls (l := x :: l) HP2.out (by
    have := Hp.pushed_ok lt_asym lt_trans' (Hp.heaped ltL z25 l) x (by rw [Hp.heaped_length]; exact Hp.heaped_ok lt_asym lt_trans' l)
    rw [Hp.heaped_length] at this
    rw [hlen]; exact this) ((Hp.pushed_perm _ _).trans (List.Perm.cons x (Hp.heaped_perm l))) (by have := HL.out; simp; omega) HB.out.2).mono ?_
  rintro e w3 ⟨vo, rfl, hR, hb3, _⟩
  refine ⟨_, rfl, ?_⟩
  have hsz := HBB.out.size
  have HX := Aside0.mk (show SrtPost w (Hp.srt ltL (x :: l)) (.returned vo) w3 from ⟨vo, rfl, V_of (by have h1 := HP.out.1.below.size; have h2 := HP2.out.below.size; simp at h1 h2; omega) hR, by
    have h1 : Below w.heap.size w (w.alloc (.cells #[.int .i64 x.f0, .int .i64 x.f1, .int .i64 x.f2, .slice A3 x.f3.length c3] 25)) := below_alloc (Below.refl _ _) _
    exact h1.trans (hb3.mono h1.size)⟩)
  clear hR hb3 hlen
  go_wp2
  go_ret
  exact HX.out
end Go.Proofs.Ytghkngdcmlhmeaa.Qp

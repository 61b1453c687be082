/- queue.Due. -/
import Derived.Test.YtghkngdcmlhmeaaQTop
set_option linter.unusedVariables false
set_option linter.unusedSimpArgs false
set_option linter.unusedSectionVars false
namespace Go.Proofs.Ytghkngdcmlhmeaa.Qp
open Go.RowKit Go.Proofs Go.Proofs.Ytghkngdcmlhmeaa.PQu Go.Proofs.YtghkngdcmlhmeaaW.PrintWords Go.Proofs.YtghkngdcmlhmeaaW.PrintLast Go.Proofs.YtghkngdcmlhmeaaW.PrintMore
theorem at_le {a b : S25} (h : ltL b a = false) : a.f0 ≤ b.f0 := by
  rw [ltL_eq] at h
  have h1 := of_decide_eq_false h
  unfold cm Qo.ord Qo.firstOf at h1
  by_cases e : b.f0 < a.f0
  · have : Qo.ci b.f0 a.f0 = -1 := if_pos e
    rw [this] at h1
    simp at h1
  · omega
set_option maxHeartbeats 1000000 in
set_option maxRecDepth 100000 in
theorem due1.calls (W : World) (nb : Nat) (now : Int) (hn : W.heap[nb]? = some (.cells #[.int .i64 now] 3 (0, 0))) (x : S25) (A3 : Option Addr) (c3 : Nat) :
    Calls Try.prog 31 (#[.agg #[.int .i64 x.f0, .int .i64 x.f1, .int .i64 x.f2, .slice A3 x.f3.length c3]] ++ #[.pointer (some ⟨nb, 0, none⟩)]) W fun e w' => e = .returned (.bool ((fun x : S25 => decide (x.f0 ≤ now)) x)) ∧ Below W.heap.size W w' := by
  have hu25 := Try.underlying25
  have hc : (W.alloc (.cells #[.int .i64 x.f0, .int .i64 x.f1, .int .i64 x.f2, .slice A3 x.f3.length c3] 25)).cell? ⟨nb, 0, none⟩ = some (.int .i64 now) := pw_cell_below (below_alloc (Below.refl _ _) _) (blk_cell hn 0)
  have hl : nb ≠ W.heap.size := by have := blk_lt hn; omega
  have hl2 : nb < W.heap.size := blk_lt hn
  clear hn
  show Calls Try.prog 31 #[.agg #[.int .i64 x.f0, .int .i64 x.f1, .int .i64 x.f2, .slice A3 x.f3.length c3], .pointer (some ⟨nb, 0, none⟩)] W _
  go_enter Try.func31, Try.ntmps31
  go_wp2
  go_ret
  exact ⟨rfl, below_alloc (Below.refl _ _) _⟩
def dueF (l : List S25) (now : Int) : Option (List S25 × List S25) := if bndB l = true then some ((Hp.srt ltL l).filter (fun x => decide (x.f0 ≤ now)), (Hp.srt ltL l).filter (fun x => !decide (x.f0 ≤ now))) else none
def DuePost (w : World) (q : List S25 × List S25) (e : Ending) (w' : World) : Prop := ∃ v0_ v1_ : Value, e = .returned (.tuple #[v0_, v1_]) ∧ Kd.V k25 25 w' w.heap.size (fun k_ => (w.heap.size ≤ k_)) v0_ q.1 ∧ Kd.V k25 25 w' w.heap.size (fun k_ => (w.heap.size ≤ k_)) v1_ q.2 ∧ Below w.heap.size w w'
set_option maxHeartbeats 4000000 in
set_option maxRecDepth 100000 in
theorem due.calls (A : Option Addr) (c : Nat) (l : List S25) (now : Int) (q : List S25 × List S25) (w : World) (hr : Kd.C k25 w A l.length l) (hc : l.length ≤ c) (h : dueF l now = some q) :
    Calls Try.prog 11 #[.slice A l.length c, .int .i64 now] w (DuePost w q) := by
  unfold dueF at h
  split at h
  case isFalse => cases h
  rename_i hb
  have HQ := Aside0.mk (Option.some.inj h)
  have HB := Aside0.mk (bndB_iff.mp hb)
  have HR := Aside0.mk (And.intro hr hc)
  have hmf : ∀ (fn : Fn) (first cap : Array Value) (w : World), (Instr.makeFunc fn first cap).run Try.prog w = .ok (.func fn first cap) w := fun _ _ _ _ => rfl
  clear h hb hr hc
  go_enter Try.func11, Try.ntmps11
  go_wp2_with ((with_reducible refine gate_dst (N := 9) rfl ?_); refine Aside0.out (p := _) ?_)
  refine Aside0.mk ?_
  refine goesL_ (some 9) rfl rfl Try.func29 (by kernel_rfl) rfl #[.slice A l.length c] rfl (by (try simp only [List.map_toArray, List.map_cons, List.map_nil, List.append_toArray, List.cons_append, List.nil_append]); first | done | rfl) ?_
  have hbx := below_alloc (Below.refl w.heap.size w) (.cells #[.int .i64 now] 3)
  have hln : l.length < 1099511627775 := HB.out.1
  refine (piled.calls _ A c l (Kd.C_below HR.out.1 hbx) HR.out.2 (by omega)).mono ?_
  rintro e w1 ⟨Pb, S, v, rfl, hP, hb1, hS⟩
  refine ⟨_, rfl, ?_⟩
  have hx1 : w1.heap[w.heap.size]? = some (.cells #[.int .i64 now] 3 (0, 0)) := (hb1.block w.heap.size (by simp)).trans (blk_new w _)
  have HP := Aside0.mk hP
  have HX1 := Aside0.mk hx1
  have HL := Aside0.mk hln
  clear hP hb1 hS hx1 hbx hln
  go_wp2_with ((with_reducible refine gate_dst (N := 12) rfl ?_); refine Aside0.out (p := _) ?_)
  refine Aside0.mk ?_
  refine goesL_ (some 12) rfl rfl Try.func30 (by kernel_rfl) rfl #[.pointer (some ⟨Pb, 0, none⟩), .func (.func 31) #[] #[.pointer (some ⟨w.heap.size, 0, none⟩)]] rfl (by (try simp only [List.map_toArray, List.map_cons, List.map_nil, List.append_toArray, List.cons_append, List.nil_append]); first | done | rfl) ?_
  have hhl := Hp.heaped_length (lt := ltL) (z := z25) l
  have hok : Hp.Ok ltL z25 (Hp.heaped ltL z25 l) (Hp.heaped ltL z25 l).length 0 := by rw [hhl]; exact Hp.heaped_ok lt_asym lt_trans' l
  have hpm := Hp.heaped_perm (lt := ltL) (z := z25) l
  have hge := HP.out.old
  have hgb := Kd.N_base HP.out.row
  refine (taken.calls HP.out (fun x => decide (x.f0 ≤ now)) 31 _ #[.pointer (some ⟨w.heap.size, 0, none⟩)] Try.func31 (by kernel_rfl) rfl (fun W' hk x A3 c3 _ _ => due1.calls W' w.heap.size now (blk_kept HX1.out hk (fun h => by
    rcases h with h | h
    · simp at hge; omega
    · have := hgb _ h.symm; simp at this; omega)) x A3 c3) (Hp.heaped ltL z25 l).length (Nat.le_refl _) (by have := HL.out; omega) (fun x hx => (HB.out.2 x (hpm.mem_iff.mp hx)).1)).mono ?_
  rintro e w2 ⟨vo, v2, rfl, hR, hP2, ho2, hK2⟩
  refine ⟨_, rfl, ?_⟩
  obtain ⟨ht1, ht2, ht3⟩ := taken_such l HB.out.2 (fun x => decide (x.f0 ≤ now)) (fun a b h1 h2 => decide_eq_true (by have := at_le h1; have := of_decide_eq_true h2; omega)) hok hpm (Hp.heaped ltL z25 l).length (Nat.le_refl _)
  rw [ht1] at hR
  obtain ⟨hs1, _⟩ := Hp.tk_spec lt_asym lt_trans' (fun x : S25 => decide (x.f0 ≤ now)) (Hp.heaped ltL z25 l).length (Hp.heaped ltL z25 l) (Nat.le_refl _) hok
  have hsub : ∀ x ∈ (Hp.tk ltL z25 (fun x => decide (x.f0 ≤ now)) (Hp.heaped ltL z25 l).length (Hp.heaped ltL z25 l)).2, good x := fun x hx => HB.out.2 x ((hs1.trans hpm).mem_iff.mp (List.mem_append_right _ hx))
  have hlen := (hs1.trans hpm).length_eq
  rw [List.length_append] at hlen
  have hlt2 : (Hp.tk ltL z25 (fun x => decide (x.f0 ≤ now)) (Hp.heaped ltL z25 l).length (Hp.heaped ltL z25 l)).2.length < 1099511627776 := by have := HL.out; omega
  clear hs1 hlen ht1 hgb hhl hok hpm
  generalize (Hp.tk ltL z25 (fun x => decide (x.f0 ≤ now)) (Hp.heaped ltL z25 l).length (Hp.heaped ltL z25 l)).2 = t at hP2 ht2 ht3 hsub hlt2
  obtain ⟨Ao, no, co, rfl⟩ : ∃ Ao no co, vo = .slice Ao no co := by
    obtain ⟨A, c, e⟩ := Kd.R_slice hR
    exact ⟨_, _, _, e⟩
  have HA := Aside0.mk (And.intro hR (And.intro hP2 (And.intro ho2 (And.intro hK2 (And.intro ht2 (And.intro ht3 (And.intro hsub hlt2)))))))
  clear hR hP2 ho2 hK2 ht2 ht3 hsub hlt2 hge
  go_wp2_with ((with_reducible refine gate_dst (N := 15) rfl ?_); refine Aside0.out (p := _) ?_)
  refine Aside0.mk ?_
  refine goesL_ (some 15) rfl rfl Try.func30 (by kernel_rfl) rfl #[.pointer (some ⟨Pb, 0, none⟩), .func (.func 32) #[] #[]] rfl (by (try simp only [List.map_toArray, List.map_cons, List.map_nil, List.append_toArray, List.cons_append, List.nil_append]); first | done | rfl) ?_
  obtain ⟨hR, hP2, ho2, hK2, ht2, ht3, hsub, hlt2⟩ := HA.out
  refine (rest.calls hP2 ht3 (List.Perm.refl t) hlt2 hsub).mono ?_
  rintro e w3 ⟨vr, rfl, hR3, hb3, hK3⟩
  refine ⟨_, rfl, ?_⟩
  have hPbl := blk_lt HP.out.box
  have hvl := Kd.N_lt HP.out.row
  have hR' := Kd.R_kept (Kd.R_mono (Kd.R_bound hR) (fun k hk => hk.2.1) : Kd.R k25 25 w2 w1.heap.size (fun k => w1.heap.size ≤ k) _ _) hK3 (fun k hk h => by
    rcases h with h | h
    · omega
    · rw [ho2] at h; have := hvl k h.symm; omega)
  have hsz : w.heap.size + 1 ≤ w1.heap.size := by have := HP.out.below.size; simpa using this
  have hsz2 := hK2.1
  have hbA : Below w.heap.size w (w.alloc (.cells #[.int .i64 now] 3)) := below_alloc (Below.refl _ _) _
  obtain ⟨Ar, nr, cr, rfl⟩ : ∃ Ar nr cr, vr = .slice Ar nr cr := by
    obtain ⟨A, c, e⟩ := Kd.R_slice hR3
    exact ⟨_, _, _, e⟩
  have HX := Aside0.mk (show DuePost w q (.returned (.tuple #[.slice Ao no co, .slice Ar nr cr])) w3 from HQ.out ▸ ⟨_, _, rfl, Kd.R_V (base := w1.heap.size) (Kd.R_mono hR' (fun k hk => by omega)), ht2 ▸ Kd.R_V (base := w2.heap.size) (Kd.R_mono (Kd.R_bound hR3) (fun k hk => by have := hk.2.1; omega)), hbA.trans (hb3.mono hbA.size)⟩)
  clear hR hP2 ho2 hK2 ht2 ht3 hsub hlt2 hR3 hb3 hK3 hPbl hvl hR' hsz hsz2 hbA HA
  go_wp2
  go_ret2
  exact HX.out
end Go.Proofs.Ytghkngdcmlhmeaa.Qp

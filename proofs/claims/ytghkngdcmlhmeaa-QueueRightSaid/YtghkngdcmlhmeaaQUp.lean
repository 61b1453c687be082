/- container/heap over the pile: up, Init, Pop, Push. -/
import Derived.Test.YtghkngdcmlhmeaaQDown
set_option linter.unusedVariables false
set_option linter.unusedSimpArgs false
set_option linter.unusedSectionVars false
namespace Go.Proofs.Ytghkngdcmlhmeaa.Qp
open Go.RowKit Go.Proofs Go.Proofs.Ytghkngdcmlhmeaa.PQu Go.Proofs.YtghkngdcmlhmeaaW.PrintWords Go.Proofs.YtghkngdcmlhmeaaW.PrintLast Go.Proofs.YtghkngdcmlhmeaaW.PrintMore
section
variable {w0 W : World} {Pb : Nat} {S : Nat → Prop} {v : Value} {l : List S25}
def UpPost (w0 W : World) (Pb : Nat) (S : Nat → Prop) (v : Value) (t : List S25) (e : Ending) (w' : World) : Prop := e = .returned (.tuple #[]) ∧ Pile w0 w' Pb S v t ∧ Kept W w' (fun k => some k = v.ownBlock)
def UpAt (w0 W : World) (Pb : Nat) (S : Nat → Prop) (v : Value) (t : List S25) (kq : Nat) (jc : Nat) (lc : List S25) (w' : World) : Prop := Pile w0 w' Pb S v lc ∧ Kept W w' (fun k => some k = v.ownBlock) ∧ jc < lc.length ∧ jc < kq ∧ jc < 1099511627776 ∧ Hp.upw ltL z25 kq lc jc = t
set_option maxHeartbeats 4000000 in
set_option maxRecDepth 100000 in
theorem up.calls (h : Pile w0 W Pb S v l) (j n : Nat) (hj : j < l.length) (hn : j < n) (hl : j < 1099511627776) :
    Calls Try.prog 53 #[.iface 60 (.pointer (some ⟨Pb, 0, none⟩)), .int .i64 (j : Int)] W (UpPost w0 W Pb S v (Hp.upw ltL z25 n l j)) := by
  have HT : Aside0 (UpAt w0 W Pb S v (Hp.upw ltL z25 n l j) n j l W) := ⟨h, Kept.refl _ _, hj, hn, hl, rfl⟩
  generalize Hp.upw ltL z25 n l j = t at HT
  clear h hn hj hl
  go_enter Try.func53, Try.ntmps53
  go_wp2
  go_loopg [1] n (fun kq v1 w' => ∃ (jc : Nat) (lc : List S25), v1 = .int .i64 (jc : Int) ∧ Aside0 (UpAt w0 W Pb S v t kq jc lc w'))
  case atStart => exact ⟨j, l, rfl, HT⟩
  case round =>
    clear HT
    obtain ⟨jc, lc, rfl, HT⟩ := hrel
    have h1 := HT.out.2.2.1
    have h2 := HT.out.2.2.2.1
    have h3 := HT.out.2.2.2.2.1
    cases gk with
    | zero => omega
    | succ k1 =>
    have hd := HT.out.2.2.2.2.2
    rw [Hp.upw] at hd
    have HQ := Aside0.mk hd
    have HP := Aside0.mk HT.out.1
    have HKp := Aside0.mk HT.out.2.1
    clear hd HT
    by_cases c1 : jc = 0
    · have hx : UpPost w0 W Pb S v t (.returned (.tuple #[])) wr := by
        have h_ := HQ.out
        rw [if_pos (by omega)] at h_
        exact ⟨rfl, by rw [← h_]; exact HP.out, HKp.out⟩
      have HX := Aside0.mk hx
      subst c1
      clear hx h1 h2 h3
      go_wp2
      all_goals go_end0
      all_goals exact HX.out
    · have c2 : 1 ≤ (jc : Int) := by omega
      have c3 : 0 ≤ (jc : Int) - 1 := by omega
      have c4 : ((((jc : Int) - 1) / 2) == (jc : Int)) = false := beq_eq_false_iff_ne.mpr (by omega)
      go_wp2_with ((with_reducible refine gate_dst (N := 15) rfl ?_); refine Aside0.out (p := _) ?_)
      refine Aside0.mk ?_
      refine goesI_ (some 15) rfl (by rfl) rfl rfl (fun n => m_less n HP.out) Try.func75 (by kernel_rfl) rfl #[v, .int .i64 (jc : Int), .int .i64 (((jc : Int) - 1) / 2)] (by (try simp only [List.map_toArray, List.map_cons, List.map_nil, List.append_toArray, List.cons_append, List.nil_append]); rfl) ?_
      refine (less.callsI HP.out jc ((jc - 1) / 2) rfl (by omega) h1 (by omega)).mono ?_
      rintro e w2 ⟨rfl, hp2, hb2⟩
      refine ⟨_, rfl, ?_⟩
      have HP2 := Aside0.mk hp2
      have HK2 := Aside0.mk (HKp.out.below hb2)
      clear hp2 hb2
      by_cases c5 : ltL (lc.getD jc z25) (lc.getD ((jc - 1) / 2) z25) = true
      · have H5 := Aside0.mk c5
        rw [c5]
        clear c5
        go_wp2_with ((with_reducible refine gate_dst (N := 21) rfl ?_); refine Aside0.out (p := _) ?_)
        refine Aside0.mk ?_
        refine goesI_ (some 21) rfl (by rfl) rfl rfl (fun n => m_swap n HP2.out) Try.func78 (by kernel_rfl) rfl #[v, .int .i64 (((jc : Int) - 1) / 2), .int .i64 (jc : Int)] (by (try simp only [List.map_toArray, List.map_cons, List.map_nil, List.append_toArray, List.cons_append, List.nil_append]); rfl) ?_
        refine (swap.callsI HP2.out ((jc - 1) / 2) jc (by omega) rfl (by omega) h1).mono ?_
        rintro e w3 ⟨rfl, hp3, hk3⟩
        refine ⟨_, rfl, ?_⟩
        have HD := Aside0.mk (show UpAt w0 W Pb S v t k1 ((jc - 1) / 2) (Hp.sw z25 lc ((jc - 1) / 2) jc) w3 from ⟨hp3, HK2.out.then_ hk3 (fun _ h => .inl h), by rw [Hp.sw_length]; omega, by omega, by omega, by have h_ := HQ.out; rw [if_neg (by omega), if_pos H5.out] at h_; exact h_⟩)
        clear hp3 hk3
        go_wp2
        go_roundg k1
        case measure => exact Nat.lt_succ_self _
        case rel => exact ⟨(jc - 1) / 2, _, (by first | rfl | (congr 1; omega) | (simp; omega)), HD⟩
      · have c6 : ltL (lc.getD jc z25) (lc.getD ((jc - 1) / 2) z25) = false := by simpa using c5
        have hx : UpPost w0 W Pb S v t (.returned (.tuple #[])) w2 := by
          have h_ := HQ.out
          rw [if_neg (by omega), if_neg c5] at h_
          exact ⟨rfl, by rw [← h_]; exact HP2.out, HK2.out⟩
        have HX := Aside0.mk hx
        rw [c6]
        clear hx c5 c6
        go_wp2
        all_goals go_end0
        all_goals exact HX.out
end
end Go.Proofs.Ytghkngdcmlhmeaa.Qp

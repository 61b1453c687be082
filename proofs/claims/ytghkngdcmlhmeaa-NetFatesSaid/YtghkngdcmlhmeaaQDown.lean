/- container/heap over the pile: down, up. container/heap over the pile: up, Init, Pop, Push. -/
import Derived.Test.YtghkngdcmlhmeaaQPile
set_option linter.unusedVariables false
set_option linter.unusedSimpArgs false
set_option linter.unusedSectionVars false
namespace Go.Proofs.Ytghkngdcmlhmeaa.Qp
open Go.RowKit Go.Proofs Go.Proofs.Ytghkngdcmlhmeaa.PQu Go.Proofs.YtghkngdcmlhmeaaW.PrintWords Go.Proofs.YtghkngdcmlhmeaaW.PrintLast Go.Proofs.YtghkngdcmlhmeaaW.PrintMore
section
variable {w0 W : World} {Pb : Nat} {S : Nat → Prop} {v : Value} {l : List S25}
theorem less.callsI (h : Pile w0 W Pb S v l) {a b : Int} (i k : Nat) (ha : a = (i : Int)) (hb : b = (k : Int)) (hi : i < l.length) (hk : k < l.length) :
    Calls Try.prog 75 #[v, .int .i64 a, .int .i64 b] W fun e w' => e = .returned (.bool (ltL (l.getD i z25) (l.getD k z25))) ∧ Pile w0 w' Pb S v l ∧ Below W.heap.size W w' := by
  subst ha hb
  exact less.calls h i k hi hk
theorem swap.callsI (h : Pile w0 W Pb S v l) {a b : Int} (i k : Nat) (ha : a = (i : Int)) (hb : b = (k : Int)) (hi : i < l.length) (hk : k < l.length) :
    Calls Try.prog 78 #[v, .int .i64 a, .int .i64 b] W fun e w' => e = .returned (.tuple #[]) ∧ Pile w0 w' Pb S v (Hp.sw z25 l i k) ∧ Kept W w' (fun k => some k = v.ownBlock) := by
  subst ha hb
  exact swap2.calls h i k hi hk
def DnPost (w0 W : World) (Pb : Nat) (S : Nat → Prop) (v : Value) (t : List S25) (e : Ending) (w' : World) : Prop := (∃ b, e = .returned (.bool b)) ∧ Pile w0 w' Pb S v t ∧ Kept W w' (fun k => some k = v.ownBlock)
def DnAt (w0 W : World) (Pb : Nat) (S : Nat → Prop) (v : Value) (t : List S25) (n kq : Nat) (ic : Nat) (lc : List S25) (w' : World) : Prop := Pile w0 w' Pb S v lc ∧ Kept W w' (fun k => some k = v.ownBlock) ∧ n ≤ lc.length ∧ n ≤ ic + kq ∧ ic < 1099511627776 ∧ Hp.dn ltL z25 kq lc ic n = t
set_option maxHeartbeats 4000000 in
set_option maxRecDepth 100000 in
theorem down.calls (h : Pile w0 W Pb S v l) (i n : Nat) (hn : n ≤ l.length) (hl : n < 1099511627776) (hi : i < 1099511627776) :
    Calls Try.prog 56 #[.iface 60 (.pointer (some ⟨Pb, 0, none⟩)), .int .i64 (i : Int), .int .i64 (n : Int)] W (DnPost w0 W Pb S v (Hp.dn ltL z25 n l i n)) := by
  have HT : Aside0 (DnAt w0 W Pb S v (Hp.dn ltL z25 n l i n) n n i l W) := ⟨h, Kept.refl _ _, hn, by omega, hi, rfl⟩
  generalize Hp.dn ltL z25 n l i n = t at HT
  clear h hn
  go_enter Try.func56, Try.ntmps56
  go_wp2
  go_loopg [7] n (fun kq v7 w' => ∃ (ic : Nat) (lc : List S25), v7 = .int .i64 (ic : Int) ∧ Aside0 (DnAt w0 W Pb S v t n kq ic lc w'))
  case atStart => exact ⟨i, l, rfl, HT⟩
  case round =>
    clear HT
    obtain ⟨ic, lc, rfl, HT⟩ := hrel
    have h1 := HT.out.2.2.1
    have h2 := HT.out.2.2.2.1
    have h3 := HT.out.2.2.2.2.1
    by_cases c1 : n ≤ 2 * ic + 1
    · have hx : ∀ b, DnPost w0 W Pb S v t (.returned (.bool b)) wr := by
        intro b
        refine ⟨⟨_, rfl⟩, ?_, HT.out.2.1⟩
        have h6 := HT.out.2.2.2.2.2
        cases gk with
        | zero => simp only [Hp.dn] at h6; rw [← h6]; exact HT.out.1
        | succ k1 => rw [Hp.dn, if_pos c1] at h6; rw [← h6]; exact HT.out.1
      have HX := Aside0.mk hx
      clear hx HT
      go_wp2
      go_ret
      exact HX.out _
    · cases gk with
      | zero => omega
      | succ k1 =>
      have hd := HT.out.2.2.2.2.2
      rw [Hp.dn, if_neg c1] at hd
      obtain ⟨q1, q2, q3⟩ := Hp.kid_lt (lt := ltL) (z := z25) (l := lc) c1
      have HQ := Aside0.mk hd
      have HP := Aside0.mk HT.out.1
      have HKp := Aside0.mk HT.out.2.1
      clear hd HT
      by_cases c2 : 2 * ic + 2 < n
      · by_cases c3 : ltL (lc.getD (2 * ic + 2) z25) (lc.getD (2 * ic + 1) z25) = true
        · have hk : Hp.kid ltL z25 lc ic n = 2 * ic + 2 := if_pos ⟨c2, c3⟩
          rw [hk] at HQ q1 q2 q3
          have H3 := Aside0.mk c3
          clear c3 hk
          go_wp2_with ((with_reducible refine gate_dst (N := 32) rfl ?_); refine Aside0.out (p := _) ?_)
          refine Aside0.mk ?_
          refine goesI_ (some 32) rfl (by rfl) rfl rfl (fun n => m_less n HP.out) Try.func75 (by kernel_rfl) rfl #[v, .int .i64 (2 * (ic : Int) + 1 + 1), .int .i64 (2 * (ic : Int) + 1)] (by (try simp only [List.map_toArray, List.map_cons, List.map_nil, List.append_toArray, List.cons_append, List.nil_append]); rfl) ?_
          refine (less.callsI HP.out (2 * ic + 2) (2 * ic + 1) (by omega) (by omega) (by omega) (by omega)).mono ?_
          rintro e w1 ⟨rfl, hp, hb⟩
          refine ⟨_, rfl, ?_⟩
          rw [H3.out]
          have HP1 := Aside0.mk hp
          have HK1 := Aside0.mk (HKp.out.below hb)
          clear hp hb
          go_wp2_with ((with_reducible refine gate_dst (N := 38) rfl ?_); refine Aside0.out (p := _) ?_)
          refine Aside0.mk ?_
          refine goesI_ (some 38) rfl (by rfl) rfl rfl (fun n => m_less n HP1.out) Try.func75 (by kernel_rfl) rfl #[v, .int .i64 (2 * (ic : Int) + 1 + 1), .int .i64 (ic : Int)] (by (try simp only [List.map_toArray, List.map_cons, List.map_nil, List.append_toArray, List.cons_append, List.nil_append]); rfl) ?_
          refine (less.callsI HP1.out (2 * ic + 2) ic (by omega) rfl (by omega) (by omega)).mono ?_
          rintro e w2 ⟨rfl, hp2, hb2⟩
          refine ⟨_, rfl, ?_⟩
          have HP2 := Aside0.mk hp2
          have HK2 := Aside0.mk (HK1.out.below hb2)
          clear hp2 hb2
          by_cases c5 : ltL (lc.getD (2 * ic + 2) z25) (lc.getD ic z25) = true
          · have H5 := Aside0.mk c5
            rw [c5]
            clear c5
            go_wp2_with ((with_reducible refine gate_dst (N := 43) rfl ?_); refine Aside0.out (p := _) ?_)
            refine Aside0.mk ?_
            refine goesI_ (some 43) rfl (by rfl) rfl rfl (fun n => m_swap n HP2.out) Try.func78 (by kernel_rfl) rfl #[v, .int .i64 (ic : Int), .int .i64 (2 * (ic : Int) + 1 + 1)] (by (try simp only [List.map_toArray, List.map_cons, List.map_nil, List.append_toArray, List.cons_append, List.nil_append]); rfl) ?_
            refine (swap.callsI HP2.out ic (2 * ic + 2) rfl (by omega) (by omega) (by omega)).mono ?_
            rintro e w3 ⟨rfl, hp3, hk3⟩
            refine ⟨_, rfl, ?_⟩
            have HD := Aside0.mk (show DnAt w0 W Pb S v t n k1 (2 * ic + 2) (Hp.sw z25 lc ic (2 * ic + 2)) w3 from ⟨hp3, HK2.out.then_ hk3 (fun _ h => .inl h), by rw [Hp.sw_length]; exact h1, by omega, by omega, by have h_ := HQ.out; rw [if_pos H5.out] at h_; exact h_⟩)
            clear hp3 hk3
            go_wp2
            go_roundg k1
            case measure => exact Nat.lt_succ_self _
            case rel => exact ⟨2 * ic + 2, _, (by first | rfl | (congr 1; omega) | (simp; omega)), HD⟩
          · have c6 : ltL (lc.getD (2 * ic + 2) z25) (lc.getD ic z25) = false := by simpa using c5
            have hx : ∀ b, DnPost w0 W Pb S v t (.returned (.bool b)) w2 := by
              intro b
              have h_ := HQ.out
              rw [if_neg c5] at h_
              exact ⟨⟨_, rfl⟩, by rw [← h_]; exact HP2.out, HK2.out⟩
            have HX := Aside0.mk hx
            rw [c6]
            clear hx c5 c6
            go_wp2
            go_ret
            exact HX.out _
        · replace c3 : ltL (lc.getD (2 * ic + 2) z25) (lc.getD (2 * ic + 1) z25) = false := by simpa using c3
          have hk : Hp.kid ltL z25 lc ic n = 2 * ic + 1 := if_neg (fun h => by rw [c3] at h; exact absurd h.2 (by simp))
          rw [hk] at HQ q1 q2 q3
          have H3 := Aside0.mk c3
          clear c3 hk
          go_wp2_with ((with_reducible refine gate_dst (N := 32) rfl ?_); refine Aside0.out (p := _) ?_)
          refine Aside0.mk ?_
          refine goesI_ (some 32) rfl (by rfl) rfl rfl (fun n => m_less n HP.out) Try.func75 (by kernel_rfl) rfl #[v, .int .i64 (2 * (ic : Int) + 1 + 1), .int .i64 (2 * (ic : Int) + 1)] (by (try simp only [List.map_toArray, List.map_cons, List.map_nil, List.append_toArray, List.cons_append, List.nil_append]); rfl) ?_
          refine (less.callsI HP.out (2 * ic + 2) (2 * ic + 1) (by omega) (by omega) (by omega) (by omega)).mono ?_
          rintro e w1 ⟨rfl, hp, hb⟩
          refine ⟨_, rfl, ?_⟩
          rw [H3.out]
          have HP1 := Aside0.mk hp
          have HK1 := Aside0.mk (HKp.out.below hb)
          clear hp hb
          go_wp2_with ((with_reducible refine gate_dst (N := 38) rfl ?_); refine Aside0.out (p := _) ?_)
          refine Aside0.mk ?_
          refine goesI_ (some 38) rfl (by rfl) rfl rfl (fun n => m_less n HP1.out) Try.func75 (by kernel_rfl) rfl #[v, .int .i64 (2 * (ic : Int) + 1), .int .i64 (ic : Int)] (by (try simp only [List.map_toArray, List.map_cons, List.map_nil, List.append_toArray, List.cons_append, List.nil_append]); rfl) ?_
          refine (less.callsI HP1.out (2 * ic + 1) ic (by omega) rfl (by omega) (by omega)).mono ?_
          rintro e w2 ⟨rfl, hp2, hb2⟩
          refine ⟨_, rfl, ?_⟩
          have HP2 := Aside0.mk hp2
          have HK2 := Aside0.mk (HK1.out.below hb2)
          clear hp2 hb2
          by_cases c5 : ltL (lc.getD (2 * ic + 1) z25) (lc.getD ic z25) = true
          · have H5 := Aside0.mk c5
            rw [c5]
            clear c5
            go_wp2_with ((with_reducible refine gate_dst (N := 43) rfl ?_); refine Aside0.out (p := _) ?_)
            refine Aside0.mk ?_
            refine goesI_ (some 43) rfl (by rfl) rfl rfl (fun n => m_swap n HP2.out) Try.func78 (by kernel_rfl) rfl #[v, .int .i64 (ic : Int), .int .i64 (2 * (ic : Int) + 1)] (by (try simp only [List.map_toArray, List.map_cons, List.map_nil, List.append_toArray, List.cons_append, List.nil_append]); rfl) ?_
            refine (swap.callsI HP2.out ic (2 * ic + 1) rfl (by omega) (by omega) (by omega)).mono ?_
            rintro e w3 ⟨rfl, hp3, hk3⟩
            refine ⟨_, rfl, ?_⟩
            have HD := Aside0.mk (show DnAt w0 W Pb S v t n k1 (2 * ic + 1) (Hp.sw z25 lc ic (2 * ic + 1)) w3 from ⟨hp3, HK2.out.then_ hk3 (fun _ h => .inl h), by rw [Hp.sw_length]; exact h1, by omega, by omega, by have h_ := HQ.out; rw [if_pos H5.out] at h_; exact h_⟩)
            clear hp3 hk3
            go_wp2
            go_roundg k1
            case measure => exact Nat.lt_succ_self _
            case rel => exact ⟨2 * ic + 1, _, (by first | rfl | (congr 1; omega) | (simp; omega)), HD⟩
          · have c6 : ltL (lc.getD (2 * ic + 1) z25) (lc.getD ic z25) = false := by simpa using c5
            have hx : ∀ b, DnPost w0 W Pb S v t (.returned (.bool b)) w2 := by
              intro b
              have h_ := HQ.out
              rw [if_neg c5] at h_
              exact ⟨⟨_, rfl⟩, by rw [← h_]; exact HP2.out, HK2.out⟩
            have HX := Aside0.mk hx
            rw [c6]
            clear hx c5 c6
            go_wp2
            go_ret
            exact HX.out _
      · have hk : Hp.kid ltL z25 lc ic n = 2 * ic + 1 := if_neg (fun h => c2 h.1)
        rw [hk] at HQ q1 q2 q3
        clear hk
        have HK1 := HKp
        go_wp2_with ((with_reducible refine gate_dst (N := 38) rfl ?_); refine Aside0.out (p := _) ?_)
        refine Aside0.mk ?_
        refine goesI_ (some 38) rfl (by rfl) rfl rfl (fun n => m_less n HP.out) Try.func75 (by kernel_rfl) rfl #[v, .int .i64 (2 * (ic : Int) + 1), .int .i64 (ic : Int)] (by (try simp only [List.map_toArray, List.map_cons, List.map_nil, List.append_toArray, List.cons_append, List.nil_append]); rfl) ?_
        refine (less.callsI HP.out (2 * ic + 1) ic (by omega) rfl (by omega) (by omega)).mono ?_
        rintro e w2 ⟨rfl, hp2, hb2⟩
        refine ⟨_, rfl, ?_⟩
        have HP2 := Aside0.mk hp2
        have HK2 := Aside0.mk (HK1.out.below hb2)
        clear hp2 hb2
        by_cases c5 : ltL (lc.getD (2 * ic + 1) z25) (lc.getD ic z25) = true
        · have H5 := Aside0.mk c5
          rw [c5]
          clear c5
          go_wp2_with ((with_reducible refine gate_dst (N := 43) rfl ?_); refine Aside0.out (p := _) ?_)
          refine Aside0.mk ?_
          refine goesI_ (some 43) rfl (by rfl) rfl rfl (fun n => m_swap n HP2.out) Try.func78 (by kernel_rfl) rfl #[v, .int .i64 (ic : Int), .int .i64 (2 * (ic : Int) + 1)] (by (try simp only [List.map_toArray, List.map_cons, List.map_nil, List.append_toArray, List.cons_append, List.nil_append]); rfl) ?_
          refine (swap.callsI HP2.out ic (2 * ic + 1) rfl (by omega) (by omega) (by omega)).mono ?_
          rintro e w3 ⟨rfl, hp3, hk3⟩
          refine ⟨_, rfl, ?_⟩
          have HD := Aside0.mk (show DnAt w0 W Pb S v t n k1 (2 * ic + 1) (Hp.sw z25 lc ic (2 * ic + 1)) w3 from ⟨hp3, HK2.out.then_ hk3 (fun _ h => .inl h), by rw [Hp.sw_length]; exact h1, by omega, by omega, by have h_ := HQ.out; rw [if_pos H5.out] at h_; exact h_⟩)
          clear hp3 hk3
          go_wp2
          go_roundg k1
          case measure => exact Nat.lt_succ_self _
          case rel => exact ⟨2 * ic + 1, _, (by first | rfl | (congr 1; omega) | (simp; omega)), HD⟩
        · have c6 : ltL (lc.getD (2 * ic + 1) z25) (lc.getD ic z25) = false := by simpa using c5
          have hx : ∀ b, DnPost w0 W Pb S v t (.returned (.bool b)) w2 := by
            intro b
            have h_ := HQ.out
            rw [if_neg c5] at h_
            exact ⟨⟨_, rfl⟩, by rw [← h_]; exact HP2.out, HK2.out⟩
          have HX := Aside0.mk hx
          rw [c6]
          clear hx c5 c6
          go_wp2
          go_ret
          exact HX.out _
end
end Go.Proofs.Ytghkngdcmlhmeaa.Qp

namespace Go.Proofs.Ytghkngdcmlhmeaa.Qp
open Go.RowKit Go.Proofs Go.Proofs.Ytghkngdcmlhmeaa.PQu Go.Proofs.YtghkngdcmlhmeaaW.PrintWords Go.Proofs.YtghkngdcmlhmeaaW.PrintLast Go.Proofs.YtghkngdcmlhmeaaW.PrintMore
section
variable {w0 W : World} {Pb : Nat} {S : Nat → Prop} {v : Value} {l : List S25}
def UpPost (w0 W : World) (Pb : Nat) (S : Nat → Prop) (v : Value) (t : List S25) (e : Ending) (w' : World) : Prop := e = .returned (.tuple #[]) ∧ Pile w0 w' Pb S v t ∧ Kept W w' (fun k => some k = v.ownBlock)
def UpAt (w0 W : World) (Pb : Nat) (S : Nat → Prop) (v : Value) (t : List S25) (kq : Nat) (jc : Nat) (lc : List S25) (w' : World) : Prop := Pile w0 w' Pb S v lc ∧ Kept W w' (fun k => some k = v.ownBlock) ∧ jc < lc.length ∧ jc < kq ∧ jc < 1099511627776 ∧ Hp.upw ltL z25 kq lc jc = t
set_option maxHeartbeats 4000000 in
set_option maxRecDepth 100000 in
theorem up.calls (h : Pile w0 W Pb S v l) (j n : Nat) (hj : j < l.length) (hn : j < n) (hl : j < 1099511627776) :
    Calls Try.prog 53 #[.iface 60 (.pointer (some ⟨Pb, 0, none⟩)), .int .i64 (j : Int)] W (UpPost w0 W Pb S v (Hp.upw ltL z25 n l j)) := by
  have HT : Aside0 (UpAt w0 W Pb S v (Hp.upw ltL z25 n l j) n j l W) := ⟨h, Kept.refl _ _, hj, hn, hl, rfl⟩
  generalize Hp.upw ltL z25 n l j = t at HT
  clear h hn hj hl
  go_enter Try.func53, Try.ntmps53
  go_wp2
  go_loopg [1] n (fun kq v1 w' => ∃ (jc : Nat) (lc : List S25), v1 = .int .i64 (jc : Int) ∧ Aside0 (UpAt w0 W Pb S v t kq jc lc w'))
  case atStart => exact ⟨j, l, rfl, HT⟩
  case round =>
    clear HT
    obtain ⟨jc, lc, rfl, HT⟩ := hrel
    have h1 := HT.out.2.2.1
    have h2 := HT.out.2.2.2.1
    have h3 := HT.out.2.2.2.2.1
    cases gk with
    | zero => omega
    | succ k1 =>
    have hd := HT.out.2.2.2.2.2
    rw [Hp.upw] at hd
    have HQ := Aside0.mk hd
    have HP := Aside0.mk HT.out.1
    have HKp := Aside0.mk HT.out.2.1
    clear hd HT
    by_cases c1 : jc = 0
    · have hx : UpPost w0 W Pb S v t (.returned (.tuple #[])) wr := by
        have h_ := HQ.out
        rw [if_pos (by omega)] at h_
        exact ⟨rfl, by rw [← h_]; exact HP.out, HKp.out⟩
      have HX := Aside0.mk hx
      subst c1
      clear hx h1 h2 h3
      go_wp2
      all_goals go_end0
      all_goals exact HX.out
    · have c2 : 1 ≤ (jc : Int) := by omega
      have c3 : 0 ≤ (jc : Int) - 1 := by omega
      have c4 : ((((jc : Int) - 1) / 2) == (jc : Int)) = false := beq_eq_false_iff_ne.mpr (by omega)
      go_wp2_with ((with_reducible refine gate_dst (N := 15) rfl ?_); refine Aside0.out (p := _) ?_)
      refine Aside0.mk ?_
      refine goesI_ (some 15) rfl (by rfl) rfl rfl (fun n => m_less n HP.out) Try.func75 (by kernel_rfl) rfl #[v, .int .i64 (jc : Int), .int .i64 (((jc : Int) - 1) / 2)] (by (try simp only [List.map_toArray, List.map_cons, List.map_nil, List.append_toArray, List.cons_append, List.nil_append]); rfl) ?_
      refine (less.callsI HP.out jc ((jc - 1) / 2) rfl (by omega) h1 (by omega)).mono ?_
      rintro e w2 ⟨rfl, hp2, hb2⟩
      refine ⟨_, rfl, ?_⟩
      have HP2 := Aside0.mk hp2
      have HK2 := Aside0.mk (HKp.out.below hb2)
      clear hp2 hb2
      by_cases c5 : ltL (lc.getD jc z25) (lc.getD ((jc - 1) / 2) z25) = true
      · have H5 := Aside0.mk c5
        rw [c5]
        clear c5
        go_wp2_with ((with_reducible refine gate_dst (N := 21) rfl ?_); refine Aside0.out (p := _) ?_)
        refine Aside0.mk ?_
        refine goesI_ (some 21) rfl (by rfl) rfl rfl (fun n => m_swap n HP2.out) Try.func78 (by kernel_rfl) rfl #[v, .int .i64 (((jc : Int) - 1) / 2), .int .i64 (jc : Int)] (by (try simp only [List.map_toArray, List.map_cons, List.map_nil, List.append_toArray, List.cons_append, List.nil_append]); rfl) ?_
        refine (swap.callsI HP2.out ((jc - 1) / 2) jc (by omega) rfl (by omega) h1).mono ?_
        rintro e w3 ⟨rfl, hp3, hk3⟩
        refine ⟨_, rfl, ?_⟩
        have HD := Aside0.mk (show UpAt w0 W Pb S v t k1 ((jc - 1) / 2) (Hp.sw z25 lc ((jc - 1) / 2) jc) w3 from ⟨hp3, HK2.out.then_ hk3 (fun _ h => .inl h), by rw [Hp.sw_length]; omega, by omega, by omega, by have h_ := HQ.out; rw [if_neg (by omega), if_pos H5.out] at h_; exact h_⟩)
        clear hp3 hk3
        go_wp2
        go_roundg k1
        case measure => exact Nat.lt_succ_self _
        case rel => exact ⟨(jc - 1) / 2, _, (by first | rfl | (congr 1; omega) | (simp; omega)), HD⟩
      · have c6 : ltL (lc.getD jc z25) (lc.getD ((jc - 1) / 2) z25) = false := by simpa using c5
        have hx : UpPost w0 W Pb S v t (.returned (.tuple #[])) w2 := by
          have h_ := HQ.out
          rw [if_neg (by omega), if_neg c5] at h_
          exact ⟨rfl, by rw [← h_]; exact HP2.out, HK2.out⟩
        have HX := Aside0.mk hx
        rw [c6]
        clear hx c5 c6
        go_wp2
        all_goals go_end0
        all_goals exact HX.out
end
end Go.Proofs.Ytghkngdcmlhmeaa.Qp

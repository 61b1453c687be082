/- container/heap over the pile: Init, Pop, Push. -/
import Derived.Test.YtghkngdcmlhmeaaQPop
set_option linter.unusedVariables false
set_option linter.unusedSimpArgs false
set_option linter.unusedSectionVars false
namespace Go.Proofs.Ytghkngdcmlhmeaa.Qp
open Go.RowKit Go.Proofs Go.Proofs.Ytghkngdcmlhmeaa.PQu Go.Proofs.YtghkngdcmlhmeaaW.PrintWords Go.Proofs.YtghkngdcmlhmeaaW.PrintLast Go.Proofs.YtghkngdcmlhmeaaW.PrintMore
section
variable {w0 W : World} {Pb : Nat} {S : Nat → Prop} {v : Value} {l : List S25}
def IniAt (w0 W : World) (Pb : Nat) (S : Nat → Prop) (v : Value) (t : List S25) (n m : Nat) (lc : List S25) (w' : World) : Prop := Pile w0 w' Pb S v lc ∧ Kept W w' (fun k => some k = v.ownBlock) ∧ lc.length = n ∧ m ≤ n ∧ n < 1099511627776 ∧ Hp.ini ltL z25 n m lc = t
set_option maxHeartbeats 4000000 in
set_option maxRecDepth 100000 in
theorem init.calls (h : Pile w0 W Pb S v l) (hl : l.length < 1099511627776) :
    Calls Try.prog 48 #[.iface 60 (.pointer (some ⟨Pb, 0, none⟩))] W (UpPost w0 W Pb S v (Hp.heaped ltL z25 l)) := by
  have HP := Aside0.mk h
  have HL := Aside0.mk hl
  obtain ⟨t, ht⟩ : ∃ t, t = Hp.heaped ltL z25 l := ⟨_, rfl⟩
  rw [← ht]
  have HE := Aside0.mk ht
  clear h hl ht
  go_enter Try.func48, Try.ntmps48
  go_wp2_with ((with_reducible refine gate_dst (N := 5) rfl ?_); refine Aside0.out (p := _) ?_)
  refine Aside0.mk ?_
  refine goesI_ (some 5) rfl (by rfl) rfl rfl (fun n => m_len n HP.out) Try.func33 (by kernel_rfl) rfl #[v] (by (try simp only [List.map_toArray, List.map_cons, List.map_nil, List.append_toArray, List.cons_append, List.nil_append]); first | done | rfl) ?_
  refine (len.calls HP.out).mono ?_
  rintro e w1 ⟨rfl, hp1, hb1⟩
  refine ⟨_, rfl, ?_⟩
  have HT : Aside0 (IniAt w0 W Pb S v t l.length (l.length / 2) l w1) := ⟨hp1, Kept.of_below hb1 _, rfl, by omega, HL.out, HE.out.symm⟩
  clear HE
  have hl := HL.out
  clear HL hp1 hb1 HP
  generalize l.length = n at HT hl ⊢
  have hn0 : 0 ≤ (n : Int) := by omega
  go_wp2
  go_loopg [3] (n / 2) (fun kq v3 w' => ∃ (lc : List S25), v3 = .int .i64 ((kq : Int) - 1) ∧ Aside0 (IniAt w0 W Pb S v t n kq lc w'))
  case atStart => exact ⟨l, by first | rfl | (congr 1; omega) | (simp; done), HT⟩
  case round =>
    clear HT
    obtain ⟨lc, hv, HT⟩ := hrel
    cases gk with
    | zero =>
      have hv' := hv.trans (show Value.int .i64 (((0 : Nat) : Int) - 1) = .int .i64 (-1) from rfl)
      clear hv
      subst hv'
      have HX := Aside0.mk (show UpPost w0 W Pb S v t (.returned (.tuple #[])) wr from ⟨rfl, by have h_ := HT.out.2.2.2.2.2; simp only [Hp.ini] at h_; rw [← h_]; exact HT.out.1, HT.out.2.1⟩)
      clear HT
      go_wp2
      all_goals go_end0
      all_goals exact HX.out
    | succ k1 =>
      have hv' := hv.trans (show Value.int .i64 (((k1 + 1 : Nat) : Int) - 1) = .int .i64 (k1 : Int) from by congr 1; omega)
      clear hv
      subst hv'
      have h3 := HT.out.2.2.1
      have h4 := HT.out.2.2.2.1
      have H3 := Aside0.mk h3
      clear h3
      go_wp2_with (go_at_call 56; refine (down.calls HT.out.1 k1 n (by rw [H3.out]; exact Nat.le_refl _) hl (by omega)).mono ?_; rintro e w2 ⟨⟨b, rfl⟩, hp2, hk2⟩; have HD := Aside0.mk (show IniAt w0 W Pb S v t n k1 (Hp.dn ltL z25 n lc k1 n) w2 from ⟨hp2, HT.out.2.1.then_ hk2 (fun _ h => .inl h), by rw [Hp.dn_length, H3.out], by omega, hl, HT.out.2.2.2.2.2⟩); clear hp2 hk2)
      go_roundg k1
      case measure => exact Nat.lt_succ_self _
      case rel => exact ⟨_, by first | rfl | (congr 1; omega), HD⟩
def PopPost (w0 W : World) (Pb : Nat) (S : Nat → Prop) (v : Value) (x : S25) (t : List S25) (e : Ending) (w' : World) : Prop := ∃ A3 c3 v', e = .returned (.iface 25 (.agg #[.int .i64 x.f0, .int .i64 x.f1, .int .i64 x.f2, .slice A3 x.f3.length c3])) ∧ x.f3.length ≤ c3 ∧ Kd.C (Kd.int .u8) w' A3 x.f3.length x.f3 ∧ v'.ownBlock = v.ownBlock ∧ Pile w0 w' Pb S v' t ∧ Kept W w' (fun k => k = Pb ∨ some k = v.ownBlock)
set_option maxHeartbeats 4000000 in
set_option maxRecDepth 100000 in
theorem hpop.calls (h : Pile w0 W Pb S v l) (m : Nat) (hm : l.length = m + 1) (hl : m < 1099511627776) :
    Calls Try.prog 49 #[.iface 60 (.pointer (some ⟨Pb, 0, none⟩))] W (PopPost w0 W Pb S v (l.getD 0 z25) (Hp.popped ltL z25 l)) := by
  have HP := Aside0.mk h
  have HM := Aside0.mk hm
  clear h hm
  go_enter Try.func49, Try.ntmps49
  go_wp2_with ((with_reducible refine gate_dst (N := 5) rfl ?_); refine Aside0.out (p := _) ?_)
  refine Aside0.mk ?_
  refine goesI_ (some 5) rfl (by rfl) rfl rfl (fun n => m_len n HP.out) Try.func33 (by kernel_rfl) rfl #[v] (by (try simp only [List.map_toArray, List.map_cons, List.map_nil, List.append_toArray, List.cons_append, List.nil_append]); first | done | rfl) ?_
  refine (len.calls HP.out).mono ?_
  rintro e w1 ⟨rfl, hp1, hb1⟩
  refine ⟨_, rfl, ?_⟩
  rw [HM.out]
  have HP1 := Aside0.mk hp1
  have HK1 := Aside0.mk (Kept.of_below hb1 (fun k => k = Pb ∨ some k = v.ownBlock))
  clear hp1 hb1
  have em : ((m + 1 : Nat) : Int) = (m : Int) + 1 := by omega
  rw [em]
  clear em
  go_wp2_with ((with_reducible refine gate_dst (N := 9) rfl ?_); refine Aside0.out (p := _) ?_)
  refine Aside0.mk ?_
  refine goesI_ (some 9) rfl (by rfl) rfl rfl (fun n => m_swap n HP1.out) Try.func78 (by kernel_rfl) rfl #[v, .int .i64 0, .int .i64 (m : Int)] (by (try simp only [List.map_toArray, List.map_cons, List.map_nil, List.append_toArray, List.cons_append, List.nil_append]); first | done | rfl) ?_
  refine (swap.callsI HP1.out 0 m rfl rfl (by rw [HM.out]; omega) (by rw [HM.out]; omega)).mono ?_
  rintro e w2 ⟨rfl, hp2, hk2⟩
  refine ⟨_, rfl, ?_⟩
  have HP2 := Aside0.mk hp2
  have HK2 := Aside0.mk (HK1.out.then_ hk2 (fun _ h => .inl (.inr h)))
  clear hp2 hk2 HP1 HK1
  go_wp2_with (go_at_call 56; refine (down.calls HP2.out 0 m (by rw [Hp.sw_length, HM.out]; omega) hl (by omega)).mono ?_; rintro e w3 ⟨⟨b, rfl⟩, hp3, hk3⟩; have HP3 := Aside0.mk hp3; have HK3 := Aside0.mk (HK2.out.then_ hk3 (fun _ h => .inl (.inr h))); clear hp3 hk3 HP2 HK2; (with_reducible refine Aside0.out (p := _) ?_))
  refine Aside0.mk ?_
  go_wp2_with ((with_reducible refine gate_dst (N := 14) rfl ?_); refine Aside0.out (p := _) ?_)
  refine Aside0.mk ?_
  refine goesI_ (some 14) rfl (by rfl) rfl rfl (fun n => m_pop n _) Try.func76 (by kernel_rfl) rfl #[.pointer (some ⟨Pb, 0, none⟩)] (by (try simp only [List.map_toArray, List.map_cons, List.map_nil, List.append_toArray, List.cons_append, List.nil_append]); first | done | rfl) ?_
  refine (pop.calls HP3.out m (by rw [Hp.dn_length, Hp.sw_length, HM.out]) hl).mono ?_
  rintro e w4 ⟨A3, c3, v', rfl, h1, h2, h3, h4, h5⟩
  refine ⟨_, rfl, ?_⟩
  have HX := Aside0.mk (show PopPost w0 W Pb S v (l.getD 0 z25) (Hp.popped ltL z25 l) (.returned (.iface 25 (.agg #[.int .i64 ((Hp.dn ltL z25 m (Hp.sw z25 l 0 m) 0 m).getD m z25).f0, .int .i64 ((Hp.dn ltL z25 m (Hp.sw z25 l 0 m) 0 m).getD m z25).f1, .int .i64 ((Hp.dn ltL z25 m (Hp.sw z25 l 0 m) 0 m).getD m z25).f2, .slice A3 ((Hp.dn ltL z25 m (Hp.sw z25 l 0 m) 0 m).getD m z25).f3.length c3]))) w4 from by
    have hx : (Hp.dn ltL z25 m (Hp.sw z25 l 0 m) 0 m).getD m z25 = l.getD 0 z25 := by
      rw [Hp.dn_far _ _ _ _ (by rw [Hp.sw_length, HM.out]; omega) m (Nat.le_refl _), Hp.sw_getD _ _ _ _ _ (by rw [HM.out]; omega) (by rw [HM.out]; omega), if_pos rfl]
    have ht : Hp.popped ltL z25 l = (Hp.dn ltL z25 m (Hp.sw z25 l 0 m) 0 m).take m := by
      unfold Hp.popped
      rw [HM.out, Nat.add_sub_cancel]
    rw [hx] at h1 h2 ⊢
    rw [ht]
    exact ⟨A3, c3, v', rfl, h1, h2, h3, h4, HK3.out.then_ h5 (fun _ h => .inl (.inl h))⟩)
  generalize (Hp.dn ltL z25 m (Hp.sw z25 l 0 m) 0 m).getD m z25 = y at HX ⊢
  clear h1 h2 h3 h4 h5 HP3 HK3
  go_wp2
  go_ret
  exact HX.out
set_option maxHeartbeats 4000000 in
set_option maxRecDepth 100000 in
theorem hpush.calls (h : Pile w0 W Pb S v l) (x : S25) (A3 : Option Addr) (c3 : Nat) {okx : Nat → Prop} (hx : Kd.FK k25 W okx x [.int .i64 x.f0, .int .i64 x.f1, .int .i64 x.f2, .slice A3 x.f3.length c3]) (hS : ∀ k, okx k → S k) (hl : l.length < 1099511627775) :
    Calls Try.prog 36 #[.iface 60 (.pointer (some ⟨Pb, 0, none⟩)), .iface 25 (.agg #[.int .i64 x.f0, .int .i64 x.f1, .int .i64 x.f2, .slice A3 x.f3.length c3])] W (PushPost w0 W Pb v (Hp.pushed ltL z25 l x)) := by
  have HP := Aside0.mk h
  have HX := Aside0.mk hx
  clear h hx
  go_enter Try.func36, Try.ntmps36
  go_wp2_with ((with_reducible refine gate_dst (N := 6) rfl ?_); refine Aside0.out (p := _) ?_)
  refine Aside0.mk ?_
  refine goesI_ (some 6) rfl (by rfl) rfl rfl (fun n => m_push n _) Try.func77 (by kernel_rfl) rfl #[.pointer (some ⟨Pb, 0, none⟩), .iface 25 (.agg #[.int .i64 x.f0, .int .i64 x.f1, .int .i64 x.f2, .slice A3 x.f3.length c3])] (by (try simp only [List.map_toArray, List.map_cons, List.map_nil, List.append_toArray, List.cons_append, List.nil_append]); first | done | rfl) ?_
  refine (push.calls HP.out x A3 c3 HX.out hS (by omega)).mono ?_
  rintro e w1 ⟨rfl, S1, v1, hp1, hk1, ho1⟩
  refine ⟨_, rfl, ?_⟩
  have HP1 := Aside0.mk hp1
  have HK1 := Aside0.mk hk1
  have HO1 := Aside0.mk ho1
  clear hp1 hk1 ho1 HP HX
  go_wp2_with ((with_reducible refine gate_dst (N := 9) rfl ?_); refine Aside0.out (p := _) ?_)
  refine Aside0.mk ?_
  refine goesI_ (some 9) rfl (by rfl) rfl rfl (fun n => m_len n HP1.out) Try.func33 (by kernel_rfl) rfl #[v1] (by (try simp only [List.map_toArray, List.map_cons, List.map_nil, List.append_toArray, List.cons_append, List.nil_append]); first | done | rfl) ?_
  refine (len.calls HP1.out).mono ?_
  rintro e w2 ⟨rfl, hp2, hb2⟩
  refine ⟨_, rfl, ?_⟩
  have HP2 := Aside0.mk hp2
  have HK2 := Aside0.mk (HK1.out.below hb2)
  clear hp2 hb2 HP1 HK1
  have el : (((l ++ [x]).length : Nat) : Int) = (l.length : Int) + 1 := by simp
  rw [el]
  clear el
  go_wp2_with (go_at_call 53; refine (up.calls HP2.out l.length (l.length + 1) (by simp) (by omega) (by omega)).mono ?_; rintro e w3 ⟨rfl, hp3, hk3⟩; have HD := Aside0.mk (show PushPost w0 W Pb v (Hp.pushed ltL z25 l x) (.returned (.tuple #[])) w3 from ⟨rfl, S1, v1, hp3, HK2.out.then_ hk3 (fun k h => by
      rcases HO1.out with e | ⟨b, e, hle⟩
      · rw [e] at h; exact .inl (.inr h)
      · rw [e] at h; injection h with h; exact .inr (by omega)), HO1.out⟩); clear hp3 hk3)
  all_goals go_end0
  all_goals exact HD.out
end
end Go.Proofs.Ytghkngdcmlhmeaa.Qp

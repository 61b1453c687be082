/- NetQuiet: the walk. -/
import Derived.Test.YtghkngdcmlhmeaaQAwake21
import Derived.Test.YtghkngdcmlhmeaaPQux16
set_option linter.unusedVariables false
set_option linter.unusedSimpArgs false
set_option linter.unusedSectionVars false
namespace Go.Proofs.Ytghkngdcmlhmeaa.Nq
open Go.RowKit Go.Proofs Go.Proofs.Ytghkngdcmlhmeaa.PQu Go.Proofs.YtghkngdcmlhmeaaW.PrintWords Go.Proofs.YtghkngdcmlhmeaaW.PrintLast Go.Proofs.YtghkngdcmlhmeaaW.PrintMore Go.Proofs.Ytghkngdcmlhmeaa.Qp Go.Proofs.Ytghkngdcmlhmeaa.Qs Go.Proofs.Ytghkngdcmlhmeaa.Qn Go.Proofs.Ytghkngdcmlhmeaa.Qw Go.Proofs.Ytghkngdcmlhmeaa.Nw Go.Proofs.Ytghkngdcmlhmeaa.Spec
theorem sameNC (w : World) (now sent : Int) (A B : Option Addr) (c d : Nat) (way : List S25) (Af Bf : Option Addr) (cf df : Nat) (hA : Kd.C k25 w A way.length way) (lA : way.length ≤ c) (hB : Kd.C k25 w B way.length way) (lB : way.length ≤ d) (hF : Kd.C k51 w Af ([] : List S51).length []) (hG : Kd.C k51 w Bf ([] : List S51).length []) (hl : way.length < 1099511627776) :
    Calls Try.prog 27 #[.agg #[.int .i64 now, .int .i64 sent, .slice A way.length c, .slice Af ([] : List S51).length cf], .agg #[.int .i64 now, .int .i64 sent, .slice B way.length d, .slice Bf ([] : List S51).length df]] w fun e w' => e = .returned (.bool true) ∧ Below w.heap.size w w' := by
  have ev : Ev (fun k => affidavitref21_Same.f k now sent way [] now sent way []) true := by
    refine Ev.iteT rfl (Ev.iteT rfl (Ev.bind (evSame way hl) (Ev.iteT rfl ?_)))
    refine Ev.step (fun k => affidavitref21_Same.j0.eq_2 ..) (Ev.iteF (by simp) ?_)
    exact Ev.step (fun k => affidavitref21_Same.l0.eq_2 ..) (Ev.iteF (by simp) (Ev.now _))
  obtain ⟨K, hK⟩ := ev
  exact affidavitref21_Same.calls K now sent A c way Af cf [] now sent B d way Bf df [] true w hA lA hF (Nat.zero_le _) hB lB hG (Nat.zero_le _) (hK K (Nat.le_refl _))
def okL (x : S25) : Bool := decide ((x.f2 = 0 ∨ x.f2 = 1) ∧ 0 < x.f0)
structure QAt (w W : World) (g5 : Nat) (l ins way : List S25) (now : Int) (Al : Option Addr) (v7 : Value) (B : Option Addr) (d : Nat) (Af : Option Addr) (cf : Nat) : Prop where
  ba : Below w.heap.size w W
  rl : Kd.C k25 W Al l.length l
  k5 : W.heap[g5]? = some (.cells #[.int .i64 now, .int .i64 0, .slice B way.length d, .slice Af ([] : List S51).length cf] 44 (0, 0))
  vi : Kd.N k25 25 W w.heap.size (fun k => k ≠ g5) v7 ins
  vw : Kd.V k25 25 W w.heap.size (fun k => (w.heap.size ≤ k ∧ k ≠ g5) ∧ some k ≠ (v7 : Value).ownBlock) (.slice B way.length d) way
  vf : Kd.V k51 51 W w.heap.size (fun k => (w.heap.size ≤ k ∧ k ≠ g5) ∧ some k ≠ (v7 : Value).ownBlock) (.slice Af ([] : List S51).length cf) []
  og : w.heap.size ≤ g5
  o7 : some g5 ≠ v7.ownBlock
theorem QAt.step {w W W' : World} {g5 : Nat} {l ins way : List S25} {now : Int} {Al : Option Addr} {v7 : Value} {B : Option Addr} {d : Nat} {Af : Option Addr} {cf : Nat} (h : QAt w W g5 l ins way now Al v7 B d Af cf) (hb : Below W.heap.size W W') : QAt w W' g5 l ins way now Al v7 B d Af cf :=
  ⟨h.ba.trans (hb.mono h.ba.size), Kd.C_below h.rl hb, (hb.block _ (blk_lt h.k5)).trans h.k5, Kd.N_below h.vi hb, Kd.V_below h.vw hb, Kd.V_below h.vf hb, h.og, h.o7⟩
/-- Another net is laid into the box. -/
theorem QAt.put5 {w W W' : World} {g5 : Nat} {l ins way way' : List S25} {now now' : Int} {Al : Option Addr} {v7 : Value} {B B' : Option Addr} {d d' : Nat} {Af : Option Addr} {cf : Nat} (h : QAt w W g5 l ins way now Al v7 B d Af cf) (hv : Kd.V k25 25 W w.heap.size (fun k => (w.heap.size ≤ k ∧ k ≠ g5) ∧ some k ≠ (v7 : Value).ownBlock) (.slice B' way'.length d') way') (hk : W'.heap[g5]? = some (.cells #[.int .i64 now', .int .i64 0, .slice B' way'.length d', .slice Af ([] : List S51).length cf] 44 (0, 0))) (hne : ∀ k, k ≠ g5 → W'.heap[k]? = W.heap[k]?) (hB : ∀ w0 B, B ≤ g5 → Below B w0 W → Below B w0 W') (hr : Kd.C k25 w Al l.length l) : QAt w W' g5 l ins way' now' Al v7 B' d' Af cf :=
  have hb := hB _ _ h.og h.ba
  ⟨hb, Kd.C_below hr hb, hk, Kd.N_step h.vi (fun k hk _ => hne k hk), Kd.V_step hv (fun k hk _ => hne k hk.1.2), Kd.V_step h.vf (fun k hk _ => hne k hk.1.2), h.og, h.o7⟩
theorem QAt.fresh {w W W' : World} {g5 : Nat} {l ins way t : List S25} {now : Int} {Al : Option Addr} {v7 : Value} {B B' : Option Addr} {d d' : Nat} {Af : Option Addr} {cf : Nat} (h : QAt w W g5 l ins way now Al v7 B d Af cf) (hv : Kd.V k25 25 W' W.heap.size (fun k => W.heap.size ≤ k) (.slice B' t.length d') t) : Kd.V k25 25 W' w.heap.size (fun k => (w.heap.size ≤ k ∧ k ≠ g5) ∧ some k ≠ (v7 : Value).ownBlock) (.slice B' t.length d') t :=
  Kd.V_mono (Kd.V_lower hv h.ba.size) (fun k hk => by
    have h1 : W.heap.size ≤ k := hk
    have h2 := blk_lt h.k5
    have h3 := h.ba.size
    exact ⟨⟨by omega, by omega⟩, Kd.fresh' (Kd.N_lt h.vi) k h1⟩)
def nq_T : Bool × List (List Nat × List Nat) := (true, [([], []), ([], []), ([], []), ([1, 2], [1, 2]), ([3], [3]), ([0, 4], [0, 4]), ([5], [5]), ([6], [6]), ([6], [6]), ([], []), ([9, 7, 5, 0, 1, 2, 3, 4, 5, 6, 7, 9], [7, 9]), ([8, 10, 0, 1, 2, 3, 4, 5, 6, 7, 8, 9, 10], [8])])
def nq_B : List Nat := [0, 0, 0, 6, 14, 31, 63, 127, 127, 0, 767, 2047]
theorem nq_tab : rtab .any (opsOf Try.f7 10) = nq_T := by kernel_rfl
theorem nq_bits : waitsOk nq_T.2 nq_B = true := by kernel_rfl
def slipW (u : S25) (way : List S25) : List S25 := if okL u = true then Hp.srt ltL (u :: way) else way
def slipE (u : S25) : Int := if okL u = true then 0 else 1
theorem slipU {w W : World} {g5 : Nat} {l ins way : List S25} {Al : Option Addr} {v7 : Value} {B : Option Addr} {d : Nat} {Af : Option Addr} {cf : Nat} (h : QAt w W g5 l ins way 0 Al v7 B d Af cf) (u : S25) (A9 : Option Addr) (c9 : Nat) (hu : Kd.C (Kd.int .u8) W A9 u.f3.length u.f3) (lu : u.f3.length ≤ c9) (gu : good u) (gw : ∀ x ∈ way, good x) (hw : way.length ≤ 20) (hg : goesB 0 0 way [] = true) :
    Calls Try.prog 26 #[.agg #[.int .i64 0, .int .i64 0, .slice B way.length d, .slice Af ([] : List S51).length cf], .agg #[.int .i64 u.f0, .int .i64 u.f1, .int .i64 u.f2, .slice A9 u.f3.length c9]] W fun e w' => ∃ B' d', e = .returned (.tuple #[.agg #[.int .i64 0, .int .i64 0, .slice B' (slipW u way).length d', .slice Af ([] : List S51).length cf], .int .i64 (slipE u)]) ∧ Kd.V k25 25 w' w.heap.size (fun k => (w.heap.size ≤ k ∧ k ≠ g5) ∧ some k ≠ (v7 : Value).ownBlock) (.slice B' (slipW u way).length d') (slipW u way) ∧ Below W.heap.size W w' := by
  have hvw := Kd.V_reads' h.vw
  have hvf := Kd.V_reads' h.vf
  unfold slipW slipE
  by_cases hok : okL u = true
  · rw [if_pos hok, if_pos hok]
    have h2 := of_decide_eq_true hok
    refine (slipOk hvw.2.2 hvw.2.1 hvf.2.2 hvf.2.1 hu lu ⟨by omega, by simp⟩ hg h2 (bndB_iff.mpr ⟨by rw [List.length_cons]; omega, fun x hx => ?_⟩)).mono ?_
    · rcases List.mem_cons.mp hx with h | h
      · rw [h]; exact gu
      · exact gw x h
    · rintro e w' ⟨B', d', rfl, hv, hb⟩
      exact ⟨B', d', rfl, h.fresh hv, hb⟩
  · rw [if_neg hok, if_neg hok]
    have h2 : ¬ ((u.f2 = 0 ∨ u.f2 = 1) ∧ 0 < u.f0) := fun h => hok (decide_eq_true h)
    refine (slipErr hvw.2.2 hvw.2.1 hvf.2.2 hvf.2.1 hu lu ⟨by omega, by simp⟩ hg (by
      by_cases h3 : u.f2 = 0 ∨ u.f2 = 1
      · exact .inr (by have : ¬ 0 < u.f0 := fun h4 => h2 ⟨h3, h4⟩; omega)
      · exact .inl h3)).mono ?_
    rintro e w' ⟨rfl, hb⟩
    exact ⟨B, d, rfl, Kd.V_below h.vw hb, hb⟩
theorem slipV {w W W0 : World} {g5 : Nat} {l ins way : List S25} {Al : Option Addr} {v7 : Value} {B : Option Addr} {d : Nat} {Af : Option Addr} {cf : Nat} (h : QAt w W g5 l ins way 0 Al v7 B d Af cf) (hv : Kd.V k25 25 W w.heap.size (fun k => ((w.heap.size ≤ k ∧ k ≠ g5) ∧ some k ≠ (v7 : Value).ownBlock) ∧ k < W0.heap.size) (.slice B way.length d) way) (hz : W.heap.size = W0.heap.size + 1) (u : S25) (A9 : Option Addr) (c9 : Nat) (hu : Kd.C (Kd.int .u8) W A9 u.f3.length u.f3) (lu : u.f3.length ≤ c9) (gu : good u) (gw : ∀ x ∈ way, good x) (hw : way.length ≤ 20) (hg : goesB 0 0 way [] = true) :
    Calls Try.prog 26 #[.agg #[.int .i64 0, .int .i64 0, .slice B way.length d, .slice Af ([] : List S51).length cf], .agg #[.int .i64 u.f0, .int .i64 u.f1, .int .i64 u.f2, .slice A9 u.f3.length c9]] W fun e w' => ∃ B' d', e = .returned (.tuple #[.agg #[.int .i64 0, .int .i64 0, .slice B' (slipW u way).length d', .slice Af ([] : List S51).length cf], .int .i64 (slipE u)]) ∧ Kd.V k25 25 w' w.heap.size (fun k => ((w.heap.size ≤ k ∧ k ≠ g5) ∧ some k ≠ (v7 : Value).ownBlock) ∧ k ≠ W0.heap.size) (.slice B' (slipW u way).length d') (slipW u way) ∧ Below W.heap.size W w' := by
  have hvw := Kd.V_reads' h.vw
  have hvf := Kd.V_reads' h.vf
  unfold slipW slipE
  by_cases hok : okL u = true
  · rw [if_pos hok, if_pos hok]
    have h2 := of_decide_eq_true hok
    refine (slipOk hvw.2.2 hvw.2.1 hvf.2.2 hvf.2.1 hu lu ⟨by omega, by simp⟩ hg h2 (bndB_iff.mpr ⟨by rw [List.length_cons]; omega, fun x hx => ?_⟩)).mono ?_
    · rcases List.mem_cons.mp hx with h | h
      · rw [h]; exact gu
      · exact gw x h
    · rintro e w' ⟨B', d', rfl, hv2, hb⟩
      exact ⟨B', d', rfl, Kd.V_mono (Kd.V_lower hv2 h.ba.size) (fun k hk => by
        have h1 : W.heap.size ≤ k := hk
        have h2 := blk_lt h.k5
        have h3 := h.ba.size
        exact ⟨⟨⟨by omega, by omega⟩, Kd.fresh' (Kd.N_lt h.vi) k h1⟩, by omega⟩), hb⟩
  · rw [if_neg hok, if_neg hok]
    have h2 : ¬ ((u.f2 = 0 ∨ u.f2 = 1) ∧ 0 < u.f0) := fun h => hok (decide_eq_true h)
    refine (slipErr hvw.2.2 hvw.2.1 hvf.2.2 hvf.2.1 hu lu ⟨by omega, by simp⟩ hg (by
      by_cases h3 : u.f2 = 0 ∨ u.f2 = 1
      · exact .inr (by have : ¬ 0 < u.f0 := fun h4 => h2 ⟨h3, h4⟩; omega)
      · exact .inl h3)).mono ?_
    rintro e w' ⟨rfl, hb⟩
    exact ⟨B, d, rfl, Kd.V_mono (Kd.V_below hv hb) (fun k hk => ⟨hk.1, by omega⟩), hb⟩
/-- The letters that a net that is new lets in. -/
def letIn (l : List S25) : List S25 := l.filter okL
theorem letIn_step {l : List S25} {i : Nat} (h : i < l.length) : letIn (l.take (i + 1)) = if okL (l.getD i z25) = true then letIn (l.take i) ++ [l.getD i z25] else letIn (l.take i) := by
  unfold letIn
  rw [List.take_succ_eq_append_getElem h, List.filter_append, Hp.getD_lt _ _ _ h]
  cases hq : okL l[i] <;> simp [hq]
theorem goes_in {ins : List S25} (h : ∀ x ∈ ins, okL x = true) (hl : ins.length ≤ 20) : goesB 0 0 ins [] = true := by
  rw [goesB_iff]
  refine ⟨?_, by decide, by decide⟩
  unfold rightB
  have h1 : ins.any (badB 0) = false := by
    rw [List.any_eq_false]
    intro x hx
    have h2 := of_decide_eq_true (h x hx)
    unfold badB
    have h3 : ¬ x.f0 ≤ 0 := by omega
    rcases h2.1 with h4 | h4 <;> simp [h4, h3]
  rw [h1]
  have h2 : decide (ins.length ≤ 4096) = true := decide_eq_true (by omega)
  rw [h2]
  rfl
def later (ins : List S25) (i : Int) : List S25 := ins.filter (fun x => !decide (x.f0 ≤ i))
/-- What is under way when so many ticks have been. -/
structure LAt (ins way : List S25) (i : Int) : Prop where
  pm : way.Perm (later ins i)
  ok : ∀ x ∈ ins, good x ∧ okL x = true
  ln : ins.length ≤ 20
theorem LAt.mem {ins way : List S25} {i : Int} (h : LAt ins way i) {x : S25} (hx : x ∈ way) : good x ∧ (x.f2 = 0 ∨ x.f2 = 1) ∧ i < x.f0 := by
  have h1 := List.mem_filter.mp (h.pm.mem_iff.mp hx)
  have h2 := h.ok x h1.1
  have h3 := of_decide_eq_true h2.2
  have h4 : ¬ x.f0 ≤ i := fun h5 => by have := h1.2; simp [h5] at this
  exact ⟨h2.1, h3.1, by omega⟩
theorem LAt.len {ins way : List S25} {i : Int} (h : LAt ins way i) : way.length ≤ 20 := by
  have h1 := h.pm.length_eq
  have h2 : (later ins i).length ≤ ins.length := List.length_filter_le _ _
  have h3 := h.ln
  omega
theorem LAt.goes {ins way : List S25} {i : Int} (h : LAt ins way i) (h0 : 0 ≤ i) (h1 : i ≤ 100) : goesB i 0 way [] = true := by
  rw [goesB_iff]
  refine ⟨?_, by omega, by decide⟩
  unfold rightB wiB
  have e1 : way.any (badB i) = false := by
    rw [List.any_eq_false]
    intro x hx
    have h2 := h.mem hx
    unfold badB
    have h3 : ¬ x.f0 ≤ i := by omega
    rcases h2.2.1 with h4 | h4 <;> simp [h4, h3]
  have h2 := h.len
  rw [e1]
  simp only [List.any_nil, Bool.not_false, Bool.and_true, Bool.and_eq_true, decide_eq_true_eq]
  omega
theorem LAt.bnd {ins way : List S25} {i : Int} (h : LAt ins way i) : bndB way = true := bndB_iff.mpr ⟨by have := h.len; omega, fun x hx => (h.mem hx).1⟩
theorem LAt.tick {ins way : List S25} {i : Int} (h : LAt ins way i) : LAt ins (dueR way (i + 1)) (i + 1) := by
  refine ⟨?_, h.ok, h.ln⟩
  refine ((((Hp.srt_perm (lt := ltL) way).trans h.pm).filter _)).trans ?_
  unfold later
  rw [List.filter_filter]
  refine List.Perm.of_eq (List.filter_congr fun x _ => ?_)
  by_cases h1 : x.f0 ≤ i
  · have h2 : x.f0 ≤ i + 1 := by omega
    simp [h1, h2]
  · simp [h1]
theorem LAt.due {ins way : List S25} {i : Int} (h : LAt ins way i) {x : S25} (hx : x ∈ dueD way (i + 1)) : x.f0 = i + 1 := by
  have h1 := List.mem_filter.mp hx
  have h2 := h.mem ((Hp.srt_perm _).mem_iff.mp h1.1)
  have h3 := of_decide_eq_true h1.2
  omega
theorem LAt.start {ins way : List S25} (hw : way = Hp.srt ltL ins) (ok : ∀ x ∈ ins, good x ∧ okL x = true) (ln : ins.length ≤ 20) : LAt ins way 0 := by
  refine ⟨?_, ok, ln⟩
  rw [hw]
  refine (Hp.srt_perm _).trans (List.Perm.of_eq (List.filter_eq_self.mpr fun x hx => ?_).symm)
  have h3 := of_decide_eq_true (ok x hx).2
  have h4 : ¬ x.f0 ≤ 0 := by omega
  simp [h4]
theorem later_count (ins : List S25) (i : Int) : (ins.filter (fun x => decide (x.f0 ≤ i))).length + (later ins i).length = ins.length := by
  unfold later
  induction ins with
  | nil => rfl
  | cons x r ih =>
    rw [List.filter_cons, List.filter_cons]
    by_cases h : x.f0 ≤ i <;> simp [h] <;> omega
theorem tk1 {k j T : Nat} (h : k + 1 + j = T) : k + (j + 1) = T := by omega
theorem tk2 {c d r m n : Nat} (h1 : c + m = n) (h2 : d + r = m) : (c + d) + r = n := by omega
theorem tk3 (j : Nat) : ((j + 1 : Nat) : Int) = (j : Int) + 1 := by omega
theorem mod100 {t : Int} (h : 0 ≤ t ∧ t ≤ 255) : ∃ n : Nat, (n : Int) = Int.tmod t 100 ∧ n < 100 ∧ (n : Int) = t % 100 := by
  have h1 : Int.tmod t 100 = t % 100 := Int.tmod_eq_emod_of_nonneg h.1
  exact ⟨(t % 100).toNat, by rw [h1]; omega, by omega, by omega⟩
theorem cnt_step {ins : List S25} {k : Nat} {T : Int} (h : k < ins.length) : ((ins.take (k + 1)).filter (fun x => decide (x.f0 ≤ T))).length = ((ins.take k).filter (fun x => decide (x.f0 ≤ T))).length + (if (ins.getD k z25).f0 ≤ T then 1 else 0) := by
  rw [List.take_succ_eq_append_getElem h, List.filter_append, List.length_append, Hp.getD_lt _ _ _ h]
  by_cases hq : ins[k].f0 ≤ T <;> simp [hq]
def aS : List Int := [5]
theorem good_aS (a b c : Int) : good (⟨a, b, c, aS⟩ : S25) := ⟨(by decide : aS.length < 140737488355328), (by decide : ∀ c ∈ aS, 0 ≤ c ∧ c ≤ 255)⟩
theorem send_slip {way : List S25} {now : Int} (hg : ∀ x ∈ way, good x) : sendW now 0 1 aS way (fateAt [] 0) = Hp.srt ltL ((⟨now + 1, 0, 1, aS⟩ : S25) :: way) := by
  have hf : fateAt [] 0 = z51 := rfl
  unfold sendW
  rw [hf]
  show (if z51.f1 = true then _ else if z51.f0 = true then _ else Hp.srt ltL ((⟨now + 1 + z51.f2, 0, 1, aS⟩ : S25) :: Hp.srt ltL way)) = _
  rw [if_neg (by decide), if_neg (by decide), show now + 1 + z51.f2 = now + 1 from Int.add_zero _]
  refine srt_same (fun x hx => ?_) (List.Perm.cons _ (Hp.srt_perm _))
  rcases List.mem_cons.mp hx with h | h
  · rw [h]; exact good_aS _ _ _
  · exact hg x ((Hp.srt_perm _).mem_iff.mp h)
theorem tk4 {k n : Nat} (h : ¬ k < n) (g : Nat) (h2 : g + k = n) : k = n := by omega
theorem cnt_end {ins way : List S25} {T : Int} {k due came : Nat} (hk : k = ins.length) (hd : due = ((ins.take k).filter (fun x => decide (x.f0 ≤ T))).length) (hc : came + way.length = ins.length) (h : LAt ins way T) : due = came := by
  rw [hk, List.take_length] at hd
  have h1 := later_count ins T
  have h2 := h.pm.length_eq
  omega
set_option maxHeartbeats 16000000 in
set_option maxRecDepth 100000 in
theorem quiet.calls (w : World) (Al : Option Addr) (cl : Nat) (l : List S25) (ticks : Int) (hrl : Kd.C k25 w Al l.length l) (hcl : l.length ≤ cl) (gl : ∀ u ∈ l, good u) (ht : 0 ≤ ticks ∧ ticks ≤ 255) :
    Calls Try.prog 7 #[.slice Al l.length cl, .int .u8 ticks] w fun e w' => e = .returned (.bool true) ∧ Below w.heap.size w w' := by
  have hu44 := Try.underlying44
  have hu25 := Try.underlying25
  have HG := Aside0.mk gl
  have HT := Aside0.mk ht
  clear gl ht
  go_enter Try.func7, Try.ntmps7
  go_wp2_with ((with_reducible refine gate_dst (N := 23) rfl ?_); refine Aside0.out (p := _) ?_)
  refine Aside0.mk ?_
  refine goesL_ (some 23) rfl rfl Try.func21 (by kernel_rfl) rfl #[] rfl (by (try simp only [List.map_toArray, List.map_cons, List.map_nil, List.append_toArray, List.cons_append, List.nil_append]); first | done | rfl) ?_
  refine (awakeC21 _).mono ?_
  rintro e w1 ⟨rfl, hb⟩
  refine ⟨_, rfl, ?_⟩
  have HR := Aside0.mk hrl
  have HRl := Aside0.mk (Kd.C_below hrl hb)
  have HB := Aside0.mk hb
  clear hb hrl
  go_wp2_with ((with_reducible refine gate_dst (N := 26) rfl ?_); refine Aside0.out (p := _) ?_)
  refine Aside0.mk ?_
  refine goesL_ (some 26) rfl rfl Try.func9 (by kernel_rfl) rfl #[.slice Al l.length cl] rfl (by (try simp only [List.map_toArray, List.map_cons, List.map_nil, List.append_toArray, List.cons_append, List.nil_append]); first | done | rfl) ?_
  refine (shortC _ Al cl l HRl.out hcl).mono ?_
  rintro e w2 ⟨rfl, hb⟩
  refine ⟨_, rfl, ?_⟩
  have n_ := Aside0.mk (HB.out.trans (hb.mono HB.out.size))
  clear HB
  have HB := n_
  clear n_
  clear hb HRl
  cases hsl : shortB l with
  | false =>
    go_wp2
    go_ret
    exact ⟨rfl, HB.out⟩
  | true =>
  by_cases h20 : 20 < l.length
  · have b1 : decide ((l.length : Int) > 20) = true := decide_eq_true (by omega)
    have b2 : decide (20 < (l.length : Int)) = true := decide_eq_true (by omega)
    have b3 : decide (20 < l.length) = true := decide_eq_true h20
    go_wp2
    go_ret
    exact ⟨rfl, HB.out⟩
  have HS := Aside0.mk (show l.length ≤ 20 by omega)
  have b1 : decide ((l.length : Int) > 20) = false := decide_eq_false (by omega)
  have b2 : decide (20 < (l.length : Int)) = false := decide_eq_false (by omega)
  have b3 : decide (20 < l.length) = false := decide_eq_false h20
  clear hsl h20
  go_wp2_with ((with_reducible refine gate_dst (N := 34) rfl ?_); refine Aside0.out (p := _) ?_)
  refine Aside0.mk ?_
  refine goesL_ (some 34) rfl rfl Try.func22 (by kernel_rfl) rfl #[.slice none ([] : List S51).length 0] rfl (by (try simp only [List.map_toArray, List.map_cons, List.map_nil, List.append_toArray, List.cons_append, List.nil_append]); first | done | rfl) ?_
  clear b1 b2 b3
  refine (newOk (fates := []) (Kd.C_nil _ _) (Nat.le_refl _) (by decide) rfl).mono ?_
  rintro e w3 ⟨Af, cf, rfl, hv, hb⟩
  refine ⟨_, rfl, ?_⟩
  have HV := Aside0.mk (Kd.V_bound hv)
  have HS2 := Aside0.mk HB.out.size
  have n_ := Aside0.mk (HB.out.trans (hb.mono HB.out.size))
  clear HB
  have HB := n_
  clear n_
  clear hv hb
  go_wp2_with ((with_reducible refine gate_dst (N := 5) rfl ?_); refine Aside0.out (p := _) ?_)
  refine Aside0.mk ?_
  refine box_event (by rfl) (N := 5) rfl (cs := #[.int .i64 0, .int .i64 0, .slice none 0 0, .slice none 0 0]) (t := 44) ?hr ?_
  case hr => first | (go_simp; done) | (go_simp; rfl)
  intro g5 hg5 w4 kg5 bg5
  have G5 := Aside0.mk (And.intro hg5 (And.intro kg5 bg5))
  clear hg5 kg5 bg5
  have HS5 := Aside0.mk (show w3.heap.size ≤ g5 ∧ w.heap.size ≤ g5 from ⟨Nat.le_of_eq G5.out.1.symm, Nat.le_trans HB.out.size (Nat.le_of_eq G5.out.1.symm)⟩)
  have K5 := Aside0.mk G5.out.2.1
  have n_ := Aside0.mk (Kd.V_below HV.out G5.out.2.2)
  clear HV
  have HV := n_
  clear n_
  have n_ := Aside0.mk (HB.out.trans (G5.out.2.2.mono HB.out.size))
  clear HB
  have HB := n_
  clear n_
  clear G5
  go_wp2_with ((with_reducible refine gate_store (t := 44) (p := 5) rfl ?_); refine Aside0.out (p := _) ?_)
  refine Aside0.mk ?_
  refine store_seg [.int .i64 0, .int .i64 0, .slice none ([] : List S25).length 0, .slice Af ([] : List S51).length cf] #[.int .i64 0, .int .i64 0, .slice none ([] : List S25).length 0, .slice Af ([] : List S51).length cf] K5.out rfl rfl rfl rfl rfl rfl (by kernel_rfl) (by simp) (by
    intro q hq
    simp only [List.mem_cons, List.not_mem_nil, or_false] at hq
    first | (rcases hq with rfl | rfl | rfl | rfl <;> rfl) | (subst hq; rfl)) rfl ?_
  intro w5 hk hne hB
  have HQ := Aside0.mk (show QAt w w5 g5 l [] [] 0 Al (.slice none 0 0) none 0 Af cf from ⟨hB _ _ HS5.out.2 HB.out, Kd.C_below HR.out (hB _ _ HS5.out.2 HB.out), hk, Kd.N_nil _ _ _ _ _, Kd.V_nil _ _ _ _ _, Kd.V_step (Kd.V_mono (Kd.V_lower HV.out HS2.out) (ok' := (fun k => (w.heap.size ≤ k ∧ k ≠ g5) ∧ some k ≠ (Value.slice none 0 0).ownBlock)) (fun k hk => by
    have h1 : _ ≤ k := hk.1
    have h2 := hk.2
    have h3 := HS5.out.1
    have h4 := HS2.out
    exact ⟨⟨by omega, by omega⟩, fun e => by cases e⟩)) (fun k hk _ => hne k hk.1.2), HS5.out.2, fun e => by cases e⟩)
  clear hk hne hB K5 HV HB HS2 HS5
  go_wp2
  go_loopg [7, 8] l.length (fun kq v7 v8 w' => ∃ (i : Nat) (B : Option Addr) (d : Nat), v8 = .int .i64 i ∧ Aside0 (kq + i = l.length ∧ QAt w w' g5 l (letIn (l.take i)) (Hp.srt ltL (letIn (l.take i))) 0 Al v7 B d Af cf))
  case atStart => exact ⟨0, none, 0, rfl, ⟨by omega, HQ.out⟩⟩
  case round =>
    clear HQ
    obtain ⟨i, B, d, rfl, HR1⟩ := hrel
    have HQ := Aside0.mk HR1.out.2
    have HK := Aside0.mk HR1.out.1
    clear HR1
    obtain ⟨ins, hins⟩ : ∃ ins, ins = letIn (l.take i) := ⟨_, rfl⟩
    have HIN := Aside0.mk hins
    rw [← hins] at HQ
    clear hins
    obtain ⟨way, hway⟩ : ∃ way, way = Hp.srt ltL ins := ⟨_, rfl⟩
    have HWY := Aside0.mk hway
    rw [← hway] at HQ
    clear hway
    have hinl : ins.length ≤ 20 := by
      rw [HIN.out]
      have h1 : (letIn (l.take i)).length ≤ (l.take i).length := List.length_filter_le _ _
      have h2 := HS.out
      have h3 : (l.take i).length ≤ l.length := by rw [List.length_take]; exact Nat.min_le_right _ _
      omega
    have hing : ∀ x ∈ ins, good x ∧ okL x = true := fun x hx => by
      rw [HIN.out] at hx
      have h1 := List.mem_filter.mp hx
      exact ⟨HG.out x (List.mem_of_mem_take h1.1), h1.2⟩
    have hwm : ∀ x, x ∈ way ↔ x ∈ ins := fun x => by rw [HWY.out]; exact (Hp.srt_perm _).mem_iff
    have hwl : way.length = ins.length := by rw [HWY.out]; exact (Hp.srt_perm _).length_eq
    have HIW := Aside0.mk (And.intro hinl (And.intro hing (And.intro hwm hwl)))
    clear hinl hing hwm hwl
    by_cases hlt : i < l.length
    · cases gk with
      | zero => exact absurd HK.out (by omega)
      | succ k1 =>
      have b1 : decide ((i : Int) < (l.length : Int)) = true := decide_eq_true (by omega)
      have b2 : decide (i < l.length) = true := decide_eq_true hlt
      obtain ⟨ad, A9, c9, e, hx0, hx1, hx2, hx3, hl3, hi3⟩ := at_T25 (HR.out) (i : Int) (by omega) (by omega)
      simp only [Int.toNat_natCast] at hx0 hx1 hx2 hx3
      subst e
      have hxe : rd_T25 l (i : Int) = l.getD i z25 := by unfold rd_T25; rw [Int.toNat_natCast]
      rw [hxe] at hx0 hx1 hx2 hx3 hl3 hi3
      clear hxe
      obtain ⟨u, hu⟩ : ∃ u, u = l.getD i z25 := ⟨_, rfl⟩
      rw [← hu] at hx0 hx1 hx2 hx3 hl3 hi3
      have HU := Aside0.mk (show u = l.getD i z25 ∧ good u from ⟨hu, by rw [hu, Hp.getD_lt _ _ _ hlt]; exact HG.out _ (List.getElem_mem _)⟩)
      have HU3 := Aside0.mk (And.intro hl3 hi3)
      have hx0 := pw_cell_below HQ.out.ba hx0
      have hx1 := pw_cell_below HQ.out.ba hx1
      have hx2 := pw_cell_below HQ.out.ba hx2
      have hx3 := pw_cell_below HQ.out.ba hx3
      have HLT := Aside0.mk hlt
      clear hl3 hi3 hu hlt
      go_wp2
      refine start_ (n := 12) (S := fun w' => w'.heap[g5]? = some (.cells #[.int .i64 0, .int .i64 0, .slice B way.length d, .slice Af ([] : List S51).length cf] 44 (0, 0)) ∧ w'.cell? (ad.add (i * 4)) = some (.int .i64 u.f0) ∧ w'.cell? ⟨(ad.add (i * 4)).block, (ad.add (i * 4)).off + 1, none⟩ = some (.int .i64 u.f1) ∧ w'.cell? ⟨(ad.add (i * 4)).block, (ad.add (i * 4)).off + 2, none⟩ = some (.int .i64 u.f2) ∧ w'.cell? ⟨(ad.add (i * 4)).block, (ad.add (i * 4)).off + 3, none⟩ = some (.slice A9 u.f3.length c9)) (ds := []) (Nw.fl 12 0) (by kernel_rfl) rfl (by kernel_rfl) ⟨HQ.out.k5, hx0, hx1, hx2, hx3⟩ (fun hHeld => ?_)
      refine with_tabW nq_tab nq_bits (fun HT_ HW_ => ?_)
      have n_ := Aside0.mk (HQ.out.step (below_drew (Below.refl _ _)))
      clear HQ
      have HQ := n_
      clear n_
      clear hx0 hx1 hx2 hx3
      generalize wr.drew = wd at HQ hHeld ⊢
      refine take_ (i := 0) (N := some 44) (v := ?_) (a' := ?_) (Nw.fl 12 1) rfl rfl (take_ofW HT_.out HW_.out (by kernel_rfl)) (fun _ _ _ h => by first | exact h | cases h.1) (Or.inl ⟨by rfl, ?_⟩) hHeld ?_ ?_
      rotate_left
      · rintro w' ⟨s0, s1, s2, s3, s4⟩
        have q0 : w'.cell? ⟨g5, 0, none⟩ = some (.int .i64 0) := blk_cell s0 0
        have q1 : w'.cell? ⟨g5, 1, none⟩ = some (.int .i64 0) := blk_cell s0 1
        have q2 : w'.cell? ⟨g5, 2, none⟩ = some (.slice B way.length d) := blk_cell s0 2
        have q3 : w'.cell? ⟨g5, 3, none⟩ = some (.slice Af ([] : List S51).length cf) := blk_cell s0 3
        go_simp
        with_reducible rfl
      rotate_left
      · simp only [Act.put, List.setIfInBounds_toArray, List.set_cons_zero, List.set_cons_succ]
        rfl
      refine pure_ (i := 1) (N := some 45) (v := ?_) (a' := ?_) (Nw.fl 12 3) rfl rfl (any_of HT_.out (by kernel_rfl)) (fun _ _ _ h => by first | exact h | cases h.1) (Or.inl ⟨by rfl, ?_⟩) ?_ ?_
      rotate_left
      · intro w'
        go_simp
        with_reducible rfl
      rotate_left
      · simp only [Act.put, List.setIfInBounds_toArray, List.set_cons_zero, List.set_cons_succ]
        rfl
      refine pure_ (i := 2) (N := some 46) (v := ?_) (a' := ?_) (Nw.fl 12 7) rfl rfl (any_of HT_.out (by kernel_rfl)) (fun _ _ _ h => by first | exact h | cases h.1) (Or.inl ⟨by rfl, ?_⟩) ?_ ?_
      rotate_left
      · intro w'
        go_simp
        with_reducible rfl
      rotate_left
      · simp only [Act.put, List.setIfInBounds_toArray, List.set_cons_zero, List.set_cons_succ]
        rfl
      refine pure_ (i := 3) (N := some 47) (v := ?_) (a' := ?_) (Nw.fl 12 15) rfl rfl (any_of HT_.out (by kernel_rfl)) (fun _ _ _ h => by first | exact h | cases h.1) (Or.inl ⟨by rfl, ?_⟩) ?_ ?_
      rotate_left
      · intro w'
        go_simp
        rw [if_pos HLT.out]
      rotate_left
      · simp only [Act.put, List.setIfInBounds_toArray, List.set_cons_zero, List.set_cons_succ]
        rfl
      refine take_ (i := 4) (N := some 48) (v := ?_) (a' := ?_) (Nw.fl 12 31) rfl rfl (take_ofW HT_.out HW_.out (by kernel_rfl)) (fun _ _ _ h => by first | exact h | cases h.1) (Or.inl ⟨by rfl, ?_⟩) hHeld ?_ ?_
      rotate_left
      · rintro w' ⟨s0, s1, s2, s3, s4⟩

        go_simp
        with_reducible rfl
      rotate_left
      · simp only [Act.put, List.setIfInBounds_toArray, List.set_cons_zero, List.set_cons_succ]
        rfl
      refine join_ (σ := Option Addr × Nat × Nat) 2 (Nw.fl 12 1023) (fun s => [(49, .tuple #[.agg #[.int .i64 0, .int .i64 0, .slice s.1 (slipW u way).length s.2.1, .slice Af ([] : List S51).length cf], .int .i64 (slipE u)]), (43, .tuple #[.agg #[.int .i64 0, .int .i64 0, .slice s.1 (slipW u way).length s.2.1, .slice Af ([] : List S51).length cf], .int .i64 (slipE u)]), (50, .agg #[.int .i64 0, .int .i64 0, .slice s.1 (slipW u way).length s.2.1, .slice Af ([] : List S51).length cf]), (51, .int .i64 (slipE u)), (9, .pointer (some ⟨s.2.2, 0, none⟩))]) (fun s w' => Below wd.heap.size wd w' ∧ wd.heap.size ≤ s.2.2 ∧ w'.heap[s.2.2]? = some (.cells #[.int .i64 0, .int .i64 0, .slice none 0 0, .slice none 0 0] 44 (0, 0)) ∧ Kd.V k25 25 w' w.heap.size (fun k => ((w.heap.size ≤ k ∧ k ≠ g5) ∧ some k ≠ (u7 : Value).ownBlock) ∧ k ≠ s.2.2) (.slice s.1 (slipW u way).length s.2.1) (slipW u way)) ?_ ?_
      rotate_left
      · intro J
        refine two_ (i := 5) (j := 9) (Ni := some 49) (Nj := some 9) (Nw.fl 12 63) (Nw.fl 12 543) rfl rfl rfl rfl (two_of HT_.out (by kernel_rfl)) (by decide) (by decide) (fun K hK => ?_) (fun K hK => ?_)
        · refine goes_ Try.func26 (by kernel_rfl) rfl #[.agg #[.int .i64 0, .int .i64 0, .slice B way.length d, .slice Af ([] : List S51).length cf], .agg #[.int .i64 u.f0, .int .i64 u.f1, .int .i64 u.f2, .slice A9 u.f3.length c9]] (by rfl) rfl rfl (by (try simp only [List.map_toArray, List.map_cons, List.map_nil, List.append_toArray, List.cons_append, List.nil_append]); first | done | rfl) ?_
          refine (slipU HQ.out u A9 c9 (Kd.C_below HU3.out.2 HQ.out.ba) HU3.out.1 HU.out.2 (fun x hx => (HIW.out.2.1 x ((HIW.out.2.2.1 x).mp hx)).1) (by rw [HIW.out.2.2.2]; exact HIW.out.1) (goes_in (fun x hx => (HIW.out.2.1 x ((HIW.out.2.2.1 x).mp hx)).2) (by rw [HIW.out.2.2.2]; exact HIW.out.1))).mono ?_
          rintro e w2 ⟨B2, d2, rfl, hv, hb⟩
          have HV := Aside0.mk (And.intro hv hb)
          refine ⟨_, rfl, hK.out _ _ ⟨(hb.block _ (blk_lt hHeld.1)).trans hHeld.1, pw_cell_below hb hHeld.2.1, pw_cell_below hb hHeld.2.2.1, pw_cell_below hb hHeld.2.2.2.1, pw_cell_below hb hHeld.2.2.2.2⟩ (fun hHeld => ?_)⟩
          clear hK K hv hb
          refine norm_ (a' := ?_) ?_ ?_
          rotate_left
          · show Act.put _ (some 49) _ = _
            simp only [Act.put, List.setIfInBounds_toArray, List.set_cons_zero, List.set_cons_succ]
            rfl
          refine pure_ (i := 6) (N := some 43) (v := ?_) (a' := ?_) (Nw.fl 12 127) rfl rfl (any_of HT_.out (by kernel_rfl)) (fun _ _ _ h => by first | exact h | cases h.1) (Or.inl ⟨by rfl, ?_⟩) ?_ ?_
          rotate_left
          · intro w'
            go_simp
            with_reducible rfl
          rotate_left
          · simp only [Act.put, List.setIfInBounds_toArray, List.set_cons_zero, List.set_cons_succ]
            rfl
          refine pure_ (i := 7) (N := some 50) (v := ?_) (a' := ?_) (Nw.fl 12 255) rfl rfl (any_of HT_.out (by kernel_rfl)) (fun _ _ _ h => by first | exact h | cases h.1) (Or.inl ⟨by rfl, ?_⟩) ?_ ?_
          rotate_left
          · intro w'
            go_simp
            with_reducible rfl
          rotate_left
          · simp only [Act.put, List.setIfInBounds_toArray, List.set_cons_zero, List.set_cons_succ]
            rfl
          refine pure_ (i := 8) (N := some 51) (v := ?_) (a' := ?_) (Nw.fl 12 511) rfl rfl (any_of HT_.out (by kernel_rfl)) (fun _ _ _ h => by first | exact h | cases h.1) (Or.inl ⟨by rfl, ?_⟩) ?_ ?_
          rotate_left
          · intro w'
            go_simp
            with_reducible rfl
          rotate_left
          · simp only [Act.put, List.setIfInBounds_toArray, List.set_cons_zero, List.set_cons_succ]
            rfl
          refine one_ (i := 9) (N := some 9) (Nw.fl 12 1023) rfl rfl (one_of HT_.out (by kernel_rfl)) (by decide) (fun K hK => ?_)
          refine event_step (by rfl) (v := .pointer (some ⟨w2.heap.size, 0, none⟩)) (w1 := w2.alloc (.cells #[.int .i64 0, .int .i64 0, .slice none 0 0, .slice none 0 0] 44)) (by first | (go_simp; done) | (go_simp; rfl)) ?_
          have hb2 := below_alloc (Below.refl w2.heap.size w2) (.cells #[.int .i64 0, .int .i64 0, .slice none 0 0, .slice none 0 0] 44)
          refine hK.out _ _ ⟨(hb2.block _ (blk_lt hHeld.1)).trans hHeld.1, pw_cell_below hb2 hHeld.2.1, pw_cell_below hb2 hHeld.2.2.1, pw_cell_below hb2 hHeld.2.2.2.1, pw_cell_below hb2 hHeld.2.2.2.2⟩ (fun hHeld => ?_)
          clear hK K
          refine norm_ (a' := ?_) ?_ ?_
          rotate_left
          · show Act.put _ (some 9) _ = _
            simp only [Act.put, List.setIfInBounds_toArray, List.set_cons_zero, List.set_cons_succ]
            rfl
          refine norm_ ?_ (J (B2, d2, w2.heap.size) _ ⟨HV.out.2.trans (hb2.mono HV.out.2.size), HV.out.2.size, blk_new w2 _, Kd.V_mono (Kd.V_alloc (Kd.V_bound HV.out.1) _) (fun k hk => ⟨hk.1, by have h1 : k < w2.heap.size := hk.2; show k ≠ w2.heap.size; omega⟩)⟩)
          first | (simp only [putAll, Act.put, List.setIfInBounds_toArray, List.set_cons_zero, List.set_cons_succ]; done) | (simp only [putAll, Act.put, List.setIfInBounds_toArray, List.set_cons_zero, List.set_cons_succ]; rfl)
        · refine event_step (by rfl) (v := .pointer (some ⟨wd.heap.size, 0, none⟩)) (w1 := wd.alloc (.cells #[.int .i64 0, .int .i64 0, .slice none 0 0, .slice none 0 0] 44)) (by first | (go_simp; done) | (go_simp; rfl)) ?_
          have hb1 := below_alloc (Below.refl wd.heap.size wd) (.cells #[.int .i64 0, .int .i64 0, .slice none 0 0, .slice none 0 0] 44)
          have HB1 := Aside0.mk hb1
          have KN := Aside0.mk (blk_new wd (.cells #[.int .i64 0, .int .i64 0, .slice none 0 0, .slice none 0 0] 44))
          have HQ1 := Aside0.mk (HQ.out.step hb1)
          have HBD := Aside0.mk (Kd.V_below (Kd.V_bound HQ.out.vw) hb1)
          refine hK.out _ _ ⟨(hb1.block _ (blk_lt hHeld.1)).trans hHeld.1, pw_cell_below hb1 hHeld.2.1, pw_cell_below hb1 hHeld.2.2.1, pw_cell_below hb1 hHeld.2.2.2.1, pw_cell_below hb1 hHeld.2.2.2.2⟩ (fun hHeld => ?_)
          clear hK K hb1
          have HSZ : Aside0 ((wd.alloc (.cells #[.int .i64 0, .int .i64 0, .slice none 0 0, .slice none 0 0] 44)).heap.size = wd.heap.size + 1) := ⟨by simp⟩
          generalize wd.alloc (.cells #[.int .i64 0, .int .i64 0, .slice none 0 0, .slice none 0 0] 44) = w1 at HB1 KN HSZ HQ1 HBD hHeld ⊢
          refine norm_ (a' := ?_) ?_ ?_
          rotate_left
          · show Act.put _ (some 9) _ = _
            simp only [Act.put, List.setIfInBounds_toArray, List.set_cons_zero, List.set_cons_succ]
            rfl
          refine one_ (i := 5) (N := some 49) (Nw.fl 12 575) rfl rfl (one_of HT_.out (by kernel_rfl)) (by decide) (fun K hK => ?_)
          refine goes_ Try.func26 (by kernel_rfl) rfl #[.agg #[.int .i64 0, .int .i64 0, .slice B way.length d, .slice Af ([] : List S51).length cf], .agg #[.int .i64 u.f0, .int .i64 u.f1, .int .i64 u.f2, .slice A9 u.f3.length c9]] (by rfl) rfl rfl (by (try simp only [List.map_toArray, List.map_cons, List.map_nil, List.append_toArray, List.cons_append, List.nil_append]); first | done | rfl) ?_
          refine (slipV HQ1.out HBD.out HSZ.out u A9 c9 (Kd.C_below HU3.out.2 HQ1.out.ba) HU3.out.1 HU.out.2 (fun x hx => (HIW.out.2.1 x ((HIW.out.2.2.1 x).mp hx)).1) (by rw [HIW.out.2.2.2]; exact HIW.out.1) (goes_in (fun x hx => (HIW.out.2.1 x ((HIW.out.2.2.1 x).mp hx)).2) (by rw [HIW.out.2.2.2]; exact HIW.out.1))).mono ?_
          rintro e w2 ⟨B2, d2, rfl, hv, hb⟩
          have HV := Aside0.mk (And.intro hv hb)
          refine ⟨_, rfl, hK.out _ _ ⟨(hb.block _ (blk_lt hHeld.1)).trans hHeld.1, pw_cell_below hb hHeld.2.1, pw_cell_below hb hHeld.2.2.1, pw_cell_below hb hHeld.2.2.2.1, pw_cell_below hb hHeld.2.2.2.2⟩ (fun hHeld => ?_)⟩
          clear hK K hv hb
          refine norm_ (a' := ?_) ?_ ?_
          rotate_left
          · show Act.put _ (some 49) _ = _
            simp only [Act.put, List.setIfInBounds_toArray, List.set_cons_zero, List.set_cons_succ]
            rfl
          refine pure_ (i := 6) (N := some 43) (v := ?_) (a' := ?_) (Nw.fl 12 639) rfl rfl (any_of HT_.out (by kernel_rfl)) (fun _ _ _ h => by first | exact h | cases h.1) (Or.inl ⟨by rfl, ?_⟩) ?_ ?_
          rotate_left
          · intro w'
            go_simp
            with_reducible rfl
          rotate_left
          · simp only [Act.put, List.setIfInBounds_toArray, List.set_cons_zero, List.set_cons_succ]
            rfl
          refine pure_ (i := 7) (N := some 50) (v := ?_) (a' := ?_) (Nw.fl 12 767) rfl rfl (any_of HT_.out (by kernel_rfl)) (fun _ _ _ h => by first | exact h | cases h.1) (Or.inl ⟨by rfl, ?_⟩) ?_ ?_
          rotate_left
          · intro w'
            go_simp
            with_reducible rfl
          rotate_left
          · simp only [Act.put, List.setIfInBounds_toArray, List.set_cons_zero, List.set_cons_succ]
            rfl
          refine pure_ (i := 8) (N := some 51) (v := ?_) (a' := ?_) (Nw.fl 12 1023) rfl rfl (any_of HT_.out (by kernel_rfl)) (fun _ _ _ h => by first | exact h | cases h.1) (Or.inl ⟨by rfl, ?_⟩) ?_ ?_
          rotate_left
          · intro w'
            go_simp
            with_reducible rfl
          rotate_left
          · simp only [Act.put, List.setIfInBounds_toArray, List.set_cons_zero, List.set_cons_succ]
            rfl
          refine norm_ ?_ (J (B2, d2, wd.heap.size) _ ⟨HB1.out.trans (HV.out.2.mono HB1.out.size), Nat.le_refl _, (HV.out.2.block _ (blk_lt KN.out)).trans KN.out, HV.out.1⟩)
          first | (simp only [putAll, Act.put, List.setIfInBounds_toArray, List.set_cons_zero, List.set_cons_succ]; done) | (simp only [putAll, Act.put, List.setIfInBounds_toArray, List.set_cons_zero, List.set_cons_succ]; rfl)
      rintro ⟨B2, d2, g9⟩ w1 ⟨hb, h9, k9, hv⟩
      have HV := Aside0.mk (show Kd.V k25 25 w1 w.heap.size (fun k => ((w.heap.size ≤ k ∧ k ≠ g5) ∧ some k ≠ (u7 : Value).ownBlock) ∧ k ≠ g9) (.slice B2 (slipW u way).length d2) (slipW u way) from hv)
      have K9 := Aside0.mk (show w1.heap[g9]? = some (.cells #[.int .i64 0, .int .i64 0, .slice none 0 0, .slice none 0 0] 44 (0, 0)) from k9)
      have HS9 := Aside0.mk (show w.heap.size ≤ g9 ∧ g5 < g9 ∧ (∀ k, (u7 : Value).ownBlock = some k → k < g9) ∧ wd.heap.size ≤ g9 from ⟨Nat.le_trans HQ.out.ba.size h9, Nat.lt_of_lt_of_le (blk_lt HQ.out.k5) h9, fun k hk => Nat.lt_of_lt_of_le (Kd.N_lt HQ.out.vi k hk) h9, h9⟩)
      have HFA := Aside0.mk (show ∀ a v, wd.cell? a = some v → a.block ≠ g9 from fun a v ha => Nat.ne_of_lt (Nat.lt_of_lt_of_le (World.block_lt_of_cell? wd a ha) h9))
      have HQ1 := Aside0.mk (HQ.out.step hb)
      have HBW := Aside0.mk hb
      have HH := Aside0.mk hHeld
      have hHeld2 : w1.heap[g5]? = some (.cells #[.int .i64 0, .int .i64 0, .slice B way.length d, .slice Af ([] : List S51).length cf] 44 (0, 0)) ∧ w1.cell? (ad.add (i * 4)) = some (.int .i64 u.f0) ∧ w1.cell? ⟨(ad.add (i * 4)).block, (ad.add (i * 4)).off + 1, none⟩ = some (.int .i64 u.f1) ∧ w1.cell? ⟨(ad.add (i * 4)).block, (ad.add (i * 4)).off + 2, none⟩ = some (.int .i64 u.f2) ∧ w1.cell? ⟨(ad.add (i * 4)).block, (ad.add (i * 4)).off + 3, none⟩ = some (.slice A9 u.f3.length c9) := ⟨(hb.block _ (blk_lt hHeld.1)).trans hHeld.1, pw_cell_below hb hHeld.2.1, pw_cell_below hb hHeld.2.2.1, pw_cell_below hb hHeld.2.2.2.1, pw_cell_below hb hHeld.2.2.2.2⟩
      clear hHeld hb h9 k9 hv
      have hHeld := hHeld2
      clear hHeld2
      refine norm_ (a' := ?_) ?_ ?_
      rotate_left
      · show putAll _ _ = _
        simp only [putAll, Act.put, List.setIfInBounds_toArray, List.set_cons_zero, List.set_cons_succ]
        rfl
      refine one_ (i := 10) (N := none) (Nw.fl 12 2047) rfl rfl (one_of HT_.out (by kernel_rfl)) (by decide) (fun K hK => ?_)
      have hst := run_store_run (P := Try.prog) (w := w1) (o := 0) 44 (.agg #[.int .i64 0, .int .i64 0, .slice B2 (slipW u way).length d2, .slice Af ([] : List S51).length cf]) [.int .i64 0, .int .i64 0, .slice B2 (slipW u way).length d2, .slice Af ([] : List S51).length cf] K9.out rfl (by kernel_rfl) (by simp) (by
        intro q hq
        simp only [List.mem_cons, List.not_mem_nil, or_false] at hq
        rcases hq with rfl | rfl | rfl | rfl <;> rfl)
      obtain ⟨cur', h3, _, h5⟩ := setCells_row [.int .i64 0, .int .i64 0, .slice B2 (slipW u way).length d2, .slice Af ([] : List S51).length cf] 0 w1 _ K9.out (by simp)
      have hn : cur' = #[.int .i64 0, .int .i64 0, .slice B2 (slipW u way).length d2, .slice Af ([] : List S51).length cf] := Array.toList_inj.mp (h5.trans rfl)
      subst hn
      obtain ⟨e1, e2, e3, e4⟩ := setCells_same g9 [.int .i64 0, .int .i64 0, .slice B2 (slipW u way).length d2, .slice Af ([] : List S51).length cf] 0 w1
      have hne : ∀ k, k ≠ g9 → (w1.setCells g9 0 [.int .i64 0, .int .i64 0, .slice B2 (slipW u way).length d2, .slice Af ([] : List S51).length cf]).heap[k]? = w1.heap[k]? := fun k hk => setCells_far _ 0 k hk
      have hB : Below w.heap.size w (w1.setCells g9 0 [.int .i64 0, .int .i64 0, .slice B2 (slipW u way).length d2, .slice Af ([] : List S51).length cf]) := HQ1.out.ba.trans ⟨e1, e2, e3, Nat.le_of_eq e4.symm, fun k hk => hne k (by have := HS9.out.1; omega)⟩
      refine skip_ (w1 := w1.setCells g9 0 [.int .i64 0, .int .i64 0, .slice B2 (slipW u way).length d2, .slice Af ([] : List S51).length cf]) (by rfl) rfl ?_ ?_
      · exact Qp.run_store hst (by rfl) (by rfl) (by rfl)
      have hg59 := HS9.out.2.1
      refine hK.out _ _ ⟨(hne _ (by omega)).trans hHeld.1, (World.cell?_of_block (hne _ (HFA.out _ _ HH.out.2.1))).trans hHeld.2.1, (World.cell?_of_block (hne _ (HFA.out _ _ HH.out.2.2.1))).trans hHeld.2.2.1, (World.cell?_of_block (hne _ (HFA.out _ _ HH.out.2.2.2.1))).trans hHeld.2.2.2.1, (World.cell?_of_block (hne _ (HFA.out _ _ HH.out.2.2.2.2))).trans hHeld.2.2.2.2⟩ (fun hHeld => ?_)
      have hB9 : Below wd.heap.size wd (w1.setCells g9 0 [.int .i64 0, .int .i64 0, .slice B2 (slipW u way).length d2, .slice Af ([] : List S51).length cf]) := HBW.out.trans ⟨e1, e2, e3, Nat.le_of_eq e4.symm, fun k hk => hne k (by have := HS9.out.2.2.2; omega)⟩
      clear HQ1
      have HQ1 := Aside0.mk (HQ.out.step hB9)
      have n_ := Aside0.mk (Kd.V_step HV.out (fun k hk _ => hne k hk.2))
      clear HV
      have HV := n_
      clear n_ K9
      have K9 := Aside0.mk h3
      have n_ := Aside0.mk (show w.heap.size ≤ g9 ∧ g5 < g9 ∧ (∀ k, (u7 : Value).ownBlock = some k → k < g9) from ⟨HS9.out.1, HS9.out.2.1, HS9.out.2.2.1⟩)
      clear HS9
      have HS9 := n_
      clear n_ hK K hst h5 e1 e2 e3 e4 hB hB9 h3 hne HQ HBW HFA hg59 HH
      have HQ := HQ1
      clear HQ1
      generalize w1.setCells g9 0 [.int .i64 0, .int .i64 0, .slice B2 (slipW u way).length d2, .slice Af ([] : List S51).length cf] = w3 at hHeld HQ HV K9 ⊢
      refine pure_ (i := 11) (N := some 10) (v := ?_) (a' := ?_) (Nw.fl 12 4095) rfl rfl (any_of HT_.out (by kernel_rfl)) (fun _ _ _ h => by first | exact h | cases h.1) (Or.inl ⟨by rfl, ?_⟩) ?_ ?_
      rotate_left
      · intro w'
        go_simp
        with_reducible rfl
      rotate_left
      · simp only [Act.put, List.setIfInBounds_toArray, List.set_cons_zero, List.set_cons_succ]
        rfl
      have HH := Aside0.mk (show w3.cell? (ad.add (i * 4)) = some (.int .i64 u.f0) ∧ w3.cell? ⟨(ad.add (i * 4)).block, (ad.add (i * 4)).off + 1, none⟩ = some (.int .i64 u.f1) ∧ w3.cell? ⟨(ad.add (i * 4)).block, (ad.add (i * 4)).off + 2, none⟩ = some (.int .i64 u.f2) ∧ w3.cell? ⟨(ad.add (i * 4)).block, (ad.add (i * 4)).off + 3, none⟩ = some (.slice A9 u.f3.length c9) from hHeld.2)
      clear hHeld
      refine done_ (done_of HT_.out (by kernel_rfl)) ?_
      by_cases hok : okL u = true
      · have hE : slipE u = 0 := if_pos hok
        have hW : slipW u way = Hp.srt ltL (u :: way) := if_pos hok
        rw [hE]
        rw [hW] at HV K9
        clear hE hW
        have HOK := Aside0.mk hok
        clear hok
        obtain ⟨hx0, hx1, hx2, hx3⟩ := HH.out
        have hlt := HLT.out
        go_wp2_with ((with_reducible refine gate_dst (N := 60) rfl ?_); refine Aside0.out (p := _) ?_)
        refine Aside0.mk ?_
        at_builtin
        refine Kd.N_append k25 (w0 := w) w.heap.size rfl (.tmp 54) (.tmp 59) 22 25 (.agg #[(.int .i64 0), (.int .i64 0), (.int .i64 0), (.slice none 0 0)]) 48 rfl Try.underlying22 info25 rfl (by decide) (by decide) u7 ins u [.int .i64 u.f0, .int .i64 u.f1, .int .i64 u.f2, .slice A9 u.f3.length c9] (fun k => k ≠ g5) (fun k => k < w.heap.size ∧ k < w.heap.size) rfl rfl (k25_mkF _ _ _ HU3.out.1 (Foot.old (Kd.C_F (Kd.heap_int .u8) HU3.out.2) HQ.out.ba)) (fun k hk => ⟨by have := HQ.out.og; omega, fun e => by have := Kd.N_base HQ.out.vi k e.symm; omega⟩) (fun k hk => by have := blk_lt HQ.out.k5; omega) HQ.out.vi HQ.out.ba HQ.out.ba.size (by have := HIW.out.1; omega) ?_
        intro v1 w4 hN hB hG hat
        have hg5 : w4.heap[g5]? = w3.heap[g5]? := hG.block g5 (blk_lt HQ.out.k5) HQ.out.o7
        have hg9 : w4.heap[g9]? = w3.heap[g9]? := hG.block g9 (blk_lt K9.out) (fun e => by have := HS9.out.2.2 g9 e.symm; omega)
        have HN4 := Aside0.mk (show QAt w w4 g5 l (ins ++ [u]) way 0 (some ad) v1 B d Af cf from ⟨hB, Kd.C_below HR.out hB, hg5.trans HQ.out.k5, hN, Kd.V_afterv HQ.out.vw hG hat, Kd.V_afterv HQ.out.vf hG hat, HQ.out.og, fun e => hN.1 g5 e.symm rfl⟩)
        have HV4 := Aside0.mk (Kd.V_mono (Kd.V_afterv (ok := fun k => (w.heap.size ≤ k ∧ k ≠ g5) ∧ k ≠ g9) (Kd.V_mono HV.out (fun k hk => ⟨⟨hk.1.1, hk.2⟩, hk.1.2⟩)) hG hat) (ok' := fun k => (w.heap.size ≤ k ∧ k ≠ g5) ∧ some k ≠ v1.ownBlock) (fun k hk => ⟨hk.1.1, hk.2⟩))
        have n_ := Aside0.mk (hg9.trans K9.out)
        clear K9
        have K9 := n_
        clear n_ hN hB hG hat hg5 hg9 hx0 hx1 hx2 hx3 HH HQ HV hlt
        obtain ⟨way2, hw2⟩ : ∃ t, t = Hp.srt ltL (u :: way) := ⟨_, rfl⟩
        rw [← hw2] at K9 HV4
        have HW2 := Aside0.mk hw2
        clear hw2
        have q0 : w4.cell? ⟨g9, 0, none⟩ = some (.int .i64 0) := blk_cell K9.out 0
        have q1 : w4.cell? ⟨g9, 1, none⟩ = some (.int .i64 0) := blk_cell K9.out 1
        have q2 : w4.cell? ⟨g9, 2, none⟩ = some (.slice B2 way2.length d2) := blk_cell K9.out 2
        have q3 : w4.cell? ⟨g9, 3, none⟩ = some (.slice Af ([] : List S51).length cf) := blk_cell K9.out 3
        go_wp2_with ((with_reducible refine gate_store (t := 44) (p := 5) rfl ?_); refine Aside0.out (p := _) ?_)
        refine Aside0.mk ?_
        refine store_seg [.int .i64 0, .int .i64 0, .slice B2 way2.length d2, .slice Af ([] : List S51).length cf] #[.int .i64 0, .int .i64 0, .slice B2 way2.length d2, .slice Af ([] : List S51).length cf] HN4.out.k5 rfl rfl rfl rfl rfl rfl (by kernel_rfl) (by simp) (by
          intro q hq
          simp only [List.mem_cons, List.not_mem_nil, or_false] at hq
          first | (rcases hq with rfl | rfl | rfl | rfl <;> rfl) | (subst hq; rfl)) rfl ?_
        intro w5 hk hne hB
        clear q0 q1 q2 q3
        have HQ5 := Aside0.mk (HN4.out.put5 HV4.out hk hne hB HR.out)
        have HJ := Aside0.mk (up1 i (by have := HLT.out; have := HS.out; omega))
        have hli : letIn (l.take (i + 1)) = ins ++ [u] := by
          rw [letIn_step HLT.out, ← HU.out.1, if_pos HOK.out, ← HIN.out]
        have hsr : way2 = Hp.srt ltL (ins ++ [u]) := by
          rw [HW2.out]
          refine srt_same (fun x hx => ?_) ?_
          · rcases List.mem_cons.mp hx with h | h
            · rw [h]; exact HU.out.2
            · exact (HIW.out.2.1 x ((HIW.out.2.2.1 x).mp h)).1
          · refine (List.Perm.cons u ?_).trans (List.perm_append_singleton u _).symm
            rw [HWY.out]
            exact Hp.srt_perm _
        have HN := Aside0.mk (show k1 + (i + 1) = l.length ∧ QAt w w5 g5 l (letIn (l.take (i + 1))) (Hp.srt ltL (letIn (l.take (i + 1)))) 0 (some ad) v1 B2 d2 Af cf from ⟨by have := HK.out; omega, by rw [hli, ← hsr]; exact HQ5.out⟩)
        clear hli hsr hk hne hB HQ5 HV4 K9 HN4 HW2 HU HU3 HLT HOK HIN HWY HIW HK
        have e2 : HN.out.2.k5 = HN.out.2.k5 := rfl
        clear e2
        go_wp2
        go_roundg k1
        case measure => exact Nat.lt_succ_self _
        case rel => exact ⟨i + 1, _, _, congrArg (Value.int .i64) HJ.out, HN⟩
      · have hE : slipE u = 1 := if_neg hok
        have hW : slipW u way = way := if_neg hok
        rw [hE]
        rw [hW] at HV K9
        clear hE hW
        have HOK := Aside0.mk hok
        clear hok HH
        have q0 : w3.cell? ⟨g9, 0, none⟩ = some (.int .i64 0) := blk_cell K9.out 0
        have q1 : w3.cell? ⟨g9, 1, none⟩ = some (.int .i64 0) := blk_cell K9.out 1
        have q2 : w3.cell? ⟨g9, 2, none⟩ = some (.slice B2 way.length d2) := blk_cell K9.out 2
        have q3 : w3.cell? ⟨g9, 3, none⟩ = some (.slice Af ([] : List S51).length cf) := blk_cell K9.out 3
        have p0 : w3.cell? ⟨g5, 0, none⟩ = some (.int .i64 0) := blk_cell HQ.out.k5 0
        have p1 : w3.cell? ⟨g5, 1, none⟩ = some (.int .i64 0) := blk_cell HQ.out.k5 1
        have p2 : w3.cell? ⟨g5, 2, none⟩ = some (.slice B way.length d) := blk_cell HQ.out.k5 2
        have p3 : w3.cell? ⟨g5, 3, none⟩ = some (.slice Af ([] : List S51).length cf) := blk_cell HQ.out.k5 3
        go_wp2_with ((with_reducible refine gate_dst (N := 67) rfl ?_); refine Aside0.out (p := _) ?_)
        refine Aside0.mk ?_
        refine gate_guard (by rfl) ?_
        dsimp only
        refine goesL_ (some 67) rfl rfl Try.func27 (by kernel_rfl) rfl #[.agg #[.int .i64 0, .int .i64 0, .slice B2 way.length d2, .slice Af ([] : List S51).length cf], .agg #[.int .i64 0, .int .i64 0, .slice B way.length d, .slice Af ([] : List S51).length cf]] rfl (by (try simp only [List.map_toArray, List.map_cons, List.map_nil, List.append_toArray, List.cons_append, List.nil_append]); first | done | rfl) ?_
        clear q0 q1 q2 q3
        clear p0 p1 p2 p3
        have hv1 := Kd.V_reads' HV.out
        have hv2 := Kd.V_reads' HQ.out.vw
        have hv3 := Kd.V_reads' HQ.out.vf
        refine (sameNC _ 0 0 B2 B d2 d way Af Af cf cf hv1.2.2 hv1.2.1 hv2.2.2 hv2.2.1 hv3.2.2 hv3.2.2 (by have h1 := HIW.out.1; have h2 := HIW.out.2.2.2; omega)).mono ?_
        clear hv1 hv2 hv3
        rintro e w4 ⟨rfl, hb⟩
        refine ⟨_, rfl, ?_⟩
        have HQ5 := Aside0.mk (HQ.out.step hb)
        have HJ := Aside0.mk (up1 i (by have := HLT.out; have := HS.out; omega))
        have hli : letIn (l.take (i + 1)) = ins := by
          rw [letIn_step HLT.out, ← HU.out.1, if_neg HOK.out, ← HIN.out]
        have HN := Aside0.mk (show k1 + (i + 1) = l.length ∧ QAt w w4 g5 l (letIn (l.take (i + 1))) (Hp.srt ltL (letIn (l.take (i + 1)))) 0 (some ad) u7 B d Af cf from ⟨by have := HK.out; omega, by rw [hli, ← HWY.out]; exact HQ5.out⟩)
        clear hli hb HQ HQ5 HV K9 HU HU3 HLT HOK HIN HWY HIW HK
        go_wp2
        go_roundg k1
        case measure => exact Nat.lt_succ_self _
        case rel => exact ⟨i + 1, _, _, congrArg (Value.int .i64) HJ.out, HN⟩
    · have b1 : decide ((i : Int) < (l.length : Int)) = false := decide_eq_false (by omega)
      have b2 : decide (i < l.length) = false := decide_eq_false hlt
      have HL := Aside0.mk (LAt.start HWY.out HIW.out.2.1 HIW.out.1)
      obtain ⟨T, hT1, hT2, hT3⟩ := mod100 HT.out
      have HTT := Aside0.mk (And.intro hT1 (And.intro hT2 hT3))
      clear HWY HIN HIW hlt hT1 hT2 hT3
      have HQ0 := HQ
      clear HQ
      go_wp2
      clear b1 b2
      go_loopg [11, 12] T (fun kq v11 v12 w' => ∃ (j came : Nat) (way : List S25) (B : Option Addr) (d : Nat), v11 = .int .i64 came ∧ v12 = .int .i64 j ∧ Aside0 (kq + j = T ∧ came + way.length = ins.length ∧ LAt ins way (j : Int) ∧ QAt w w' g5 l ins way (j : Int) Al u7 B d Af cf))
      case atStart => exact ⟨0, 0, way, B, d, rfl, rfl, ⟨by omega, by have h1 := HL.out.pm.length_eq; have h2 := later_count ins 0; have h3 := HL.out.pm; have h4 : (ins.filter (fun x => decide (x.f0 ≤ 0))).length = 0 := (by rw [List.length_eq_zero_iff, List.filter_eq_nil_iff]; intro x hx h5; have h6 := of_decide_eq_true (HL.out.ok x hx).2; have h7 := of_decide_eq_true h5; omega); have h8 := later_count ins ((0 : Nat) : Int); simp only [Int.natCast_zero] at h1 h8 ⊢; omega, HL.out, HQ0.out⟩⟩
      case round =>
        obtain ⟨j, came, way, B, d, rfl, rfl, HR2⟩ := hrel
        clear HQ0 HL
        have HQ := Aside0.mk HR2.out.2.2.2
        have HL := Aside0.mk HR2.out.2.2.1
        have HK := Aside0.mk HR2.out.1
        have HC := Aside0.mk HR2.out.2.1
        clear HR2
        have hmod : Int.tmod ticks 100 = (T : Int) := HTT.out.1.symm
        have hwr : wrap64 (T : Int) = (T : Int) := w64_in (by omega) (by have := HTT.out.2.1; omega)
        by_cases hlt : j < T
        · cases gk with
          | zero => exact absurd HK.out (by omega)
          | succ k1 =>
          have b1 : decide ((j : Int) < (T : Int)) = true := decide_eq_true (by omega)
          have b2 : decide (j < T) = true := decide_eq_true hlt
          have q0 : wr.cell? ⟨g5, 0, none⟩ = some (.int .i64 (j : Int)) := blk_cell HQ.out.k5 0
          have q1 : wr.cell? ⟨g5, 1, none⟩ = some (.int .i64 0) := blk_cell HQ.out.k5 1
          have q2 : wr.cell? ⟨g5, 2, none⟩ = some (.slice B way.length d) := blk_cell HQ.out.k5 2
          have q3 : wr.cell? ⟨g5, 3, none⟩ = some (.slice Af ([] : List S51).length cf) := blk_cell HQ.out.k5 3
          go_wp2_with ((with_reducible refine gate_dst (N := 79) rfl ?_); refine Aside0.out (p := _) ?_)
          refine Aside0.mk ?_
          refine goesL_ (some 79) rfl rfl Try.func24 (by kernel_rfl) rfl #[.agg #[.int .i64 (j : Int), .int .i64 0, .slice B way.length d, .slice Af ([] : List S51).length cf]] rfl (by (try simp only [List.map_toArray, List.map_cons, List.map_nil, List.append_toArray, List.cons_append, List.nil_append]); first | done | rfl) ?_
          clear q0 q1 q2 q3
          have hv1 := Kd.V_reads' HQ.out.vw
          have hv2 := Kd.V_reads' HQ.out.vf
          refine (tickC hv1.2.2 hv1.2.1 hv2.2.2 hv2.2.1 ⟨by have := HL.out.len; omega, by simp⟩ HL.out.bnd (by omega) (HL.out.goes (by omega) (by have := HTT.out.2.1; omega))).mono ?_
          clear hv1 hv2
          rintro e w6 ⟨B2, d2, B3, d3, rfl, hv, hv3, hb⟩
          refine ⟨_, rfl, ?_⟩
          obtain ⟨R, hR⟩ : ∃ t, t = dueR way ((j : Int) + 1) := ⟨_, rfl⟩
          obtain ⟨D, hD⟩ : ∃ t, t = dueD way ((j : Int) + 1) := ⟨_, rfl⟩
          rw [← hR] at hv ⊢
          rw [← hD] at hv3 ⊢
          have HLR := Aside0.mk (show LAt ins R ((j : Int) + 1) from hR ▸ HL.out.tick)
          have HD := Aside0.mk (show (∀ x ∈ D, x.f0 = (j : Int) + 1) ∧ D.length + R.length = way.length from ⟨fun x hx => HL.out.due (hD ▸ hx), by rw [hD, hR]; exact due_split _ _⟩)
          clear hR hD
          have HVR := Aside0.mk (HQ.out.fresh hv)
          have HVD := Aside0.mk (HQ.out.fresh hv3)
          have n_ := Aside0.mk (HQ.out.step hb)
          clear HQ
          have HQ := n_
          clear n_ hv hv3 hb
          go_wp2_with ((with_reducible refine gate_dst (N := 13) rfl ?_); refine Aside0.out (p := _) ?_)
          refine Aside0.mk ?_
          refine box_event (by rfl) (N := 13) rfl (cs := #[.int .i64 0, .int .i64 0, .slice none 0 0, .slice none 0 0]) (t := 44) ?hr ?_
          case hr => first | (go_simp; done) | (go_simp; rfl)
          intro g13 hg13 w7 kg13 bg13
          have G13 := Aside0.mk (And.intro hg13 (And.intro kg13 bg13))
          clear hg13 kg13 bg13
          go_wp2_with ((with_reducible refine gate_store (t := 44) (p := 13) rfl ?_); refine Aside0.out (p := _) ?_)
          refine Aside0.mk ?_
          refine store_seg [.int .i64 ((j : Int) + 1), .int .i64 0, .slice B2 R.length d2, .slice Af ([] : List S51).length cf] #[.int .i64 ((j : Int) + 1), .int .i64 0, .slice B2 R.length d2, .slice Af ([] : List S51).length cf] G13.out.2.1 rfl rfl rfl rfl rfl rfl (by kernel_rfl) (by simp) (by
            intro q hq
            simp only [List.mem_cons, List.not_mem_nil, or_false] at hq
            first | (rcases hq with rfl | rfl | rfl | rfl <;> rfl) | (subst hq; rfl)) rfl ?_
          intro w8 hk hne hB
          have hb := hB _ _ (Nat.le_of_eq G13.out.1.symm) G13.out.2.2
          have n_ := Aside0.mk (HQ.out.step hb)
          clear HQ
          have HQ := n_
          clear n_
          have n_ := Aside0.mk (Kd.V_below HVR.out hb)
          clear HVR
          have HVR := n_
          clear n_
          have n_ := Aside0.mk (Kd.V_below HVD.out hb)
          clear HVD
          have HVD := n_
          clear n_
          have K13 := Aside0.mk hk
          clear hk hne hB hb G13
          have hl20 := HL.out.len
          have hDR := HD.out.2
          have hw91 : wrap64 ((D.length : Int) + (R.length : Int)) = (way.length : Int) := (w64_in (by omega) (by omega)).trans (by omega)
          have q0 : w8.cell? ⟨g5, 0, none⟩ = some (.int .i64 (j : Int)) := blk_cell HQ.out.k5 0
          have q1 : w8.cell? ⟨g5, 1, none⟩ = some (.int .i64 0) := blk_cell HQ.out.k5 1
          have q2 : w8.cell? ⟨g5, 2, none⟩ = some (.slice B way.length d) := blk_cell HQ.out.k5 2
          have q3 : w8.cell? ⟨g5, 3, none⟩ = some (.slice Af ([] : List S51).length cf) := blk_cell HQ.out.k5 3
          have p0 : w8.cell? ⟨g13, 0, none⟩ = some (.int .i64 ((j : Int) + 1)) := blk_cell K13.out 0
          have p1 : w8.cell? ⟨g13, 1, none⟩ = some (.int .i64 0) := blk_cell K13.out 1
          have p2 : w8.cell? ⟨g13, 2, none⟩ = some (.slice B2 R.length d2) := blk_cell K13.out 2
          have p3 : w8.cell? ⟨g13, 3, none⟩ = some (.slice Af ([] : List S51).length cf) := blk_cell K13.out 3
          go_wp2_with ((with_reducible refine gate_dst (N := 99) rfl ?_); refine Aside0.out (p := _) ?_)
          refine Aside0.mk ?_
          refine gate_guard (by rfl) ?_
          dsimp only
          refine goesL_ (some 99) rfl rfl Try.func28 (by kernel_rfl) rfl #[.agg #[.int .i64 (j : Int), .int .i64 0, .slice B way.length d, .slice Af ([] : List S51).length cf]] rfl (by (try simp only [List.map_toArray, List.map_cons, List.map_nil, List.append_toArray, List.cons_append, List.nil_append]); first | done | rfl) ?_
          clear q0 q1 q2 q3
          clear p0 p1 p2 p3
          have hv1 := Kd.V_reads' HQ.out.vw
          have hv2 := Kd.V_reads' HQ.out.vf
          refine (idleC hv1.2.2 hv1.2.1 hv2.2.2 hv2.2.1 ⟨by have := HL.out.len; omega, by simp⟩ (goesB_iff.mp (HL.out.goes (by omega) (by have := HTT.out.2.1; omega))).1).mono ?_
          clear hv1 hv2
          rintro e w9 ⟨rfl, hb⟩
          refine ⟨_, rfl, ?_⟩
          have n_ := Aside0.mk (HQ.out.step hb)
          clear HQ
          have HQ := n_
          clear n_
          have n_ := Aside0.mk (Kd.V_below HVR.out hb)
          clear HVR
          have HVR := n_
          clear n_
          have n_ := Aside0.mk (Kd.V_below HVD.out hb)
          clear HVD
          have HVD := n_
          clear n_
          have n_ := Aside0.mk ((hb.block _ (blk_lt K13.out)).trans K13.out)
          clear K13
          have K13 := n_
          clear n_ hb hw91
          by_cases hz : way.length = 0
          · have b3 : decide (way.length = 0) = true := decide_eq_true hz
            have b4 : decide ((D.length : Int) > 0) = false := decide_eq_false (by omega)
            have b5 : decide (0 < (D.length : Int)) = false := decide_eq_false (by omega)
            have b6 : decide (0 < D.length) = false := decide_eq_false (by omega)
            go_wp2
            go_loopg [16] D.length (fun kq v16 w' => ∃ k : Nat, v16 = .int .i64 k ∧ Aside0 (kq + k = D.length ∧ Below w9.heap.size w9 w'))
            case atStart => exact ⟨0, rfl, ⟨by omega, Below.refl _ _⟩⟩
            case round =>
              obtain ⟨k, rfl, HR3⟩ := hrel
              have HK3 := Aside0.mk HR3.out.1
              have HB3 := Aside0.mk HR3.out.2
              clear HR3
              by_cases hlk : k < D.length
              · exact absurd hlk (by omega)
              · have b7 : decide ((k : Int) < (D.length : Int)) = false := decide_eq_false (by omega)
                have b8 : decide (k < D.length) = false := decide_eq_false hlk
                have n_ := Aside0.mk (HQ.out.step HB3.out)
                have HQ9 := n_
                clear n_
                have HVR9 := Aside0.mk (Kd.V_below HVR.out HB3.out)
                have K13b := Aside0.mk ((HB3.out.block _ (blk_lt K13.out)).trans K13.out)
                clear HQ HVR K13 HB3 HVD
                have hwj : wrap64 ((j : Int) + 1) = (j : Int) + 1 := w64_in (by omega) (by have := HTT.out.2.1; omega)
                have hwc : wrap64 ((came : Int) + (D.length : Int)) = ((came + D.length : Nat) : Int) := (w64_in (by have := HC.out; have := HL.out.ln; have := HD.out.2; omega) (by have := HC.out; have := HL.out.ln; have := HD.out.2; omega)).trans (by omega)
                have q0 : wr.cell? ⟨g13, 0, none⟩ = some (.int .i64 ((j : Int) + 1)) := blk_cell K13b.out 0
                have q1 : wr.cell? ⟨g13, 1, none⟩ = some (.int .i64 0) := blk_cell K13b.out 1
                have q2 : wr.cell? ⟨g13, 2, none⟩ = some (.slice B2 R.length d2) := blk_cell K13b.out 2
                have q3 : wr.cell? ⟨g13, 3, none⟩ = some (.slice Af ([] : List S51).length cf) := blk_cell K13b.out 3
                go_wp2_with ((with_reducible refine gate_store (t := 44) (p := 5) rfl ?_); refine Aside0.out (p := _) ?_)
                refine Aside0.mk ?_
                refine store_seg [.int .i64 ((j : Int) + 1), .int .i64 0, .slice B2 R.length d2, .slice Af ([] : List S51).length cf] #[.int .i64 ((j : Int) + 1), .int .i64 0, .slice B2 R.length d2, .slice Af ([] : List S51).length cf] HQ9.out.k5 rfl rfl rfl rfl rfl rfl (by kernel_rfl) (by simp) (by
                  intro q hq
                  simp only [List.mem_cons, List.not_mem_nil, or_false] at hq
                  first | (rcases hq with rfl | rfl | rfl | rfl <;> rfl) | (subst hq; rfl)) rfl ?_
                intro w10 hk hne hB
                clear q0 q1 q2 q3
                have HQ10 := Aside0.mk (HQ9.out.put5 HVR9.out hk hne hB HR.out)
                have hcast := tk3 j
                have HN := Aside0.mk (show k1 + (j + 1) = T ∧ (came + D.length) + R.length = ins.length ∧ LAt ins R ((j + 1 : Nat) : Int) ∧ QAt w w10 g5 l ins R ((j + 1 : Nat) : Int) Al u7 B2 d2 Af cf from ⟨tk1 HK.out, tk2 HC.out HD.out.2, by rw [hcast]; exact HLR.out, by rw [hcast]; exact HQ10.out⟩)
                clear hk hne hB HQ9 HVR9 K13b HQ10 hcast
                go_wp2
                go_roundg k1
                case measure => exact Nat.lt_succ_self _
                case rel => exact ⟨j + 1, came + D.length, R, B2, d2, by first | exact congrArg (Value.int .i64) hwc | rfl, by first | exact congrArg (Value.int .i64) (hwj.trans (by omega)) | rfl, HN⟩
          · have b3 : decide (way.length = 0) = false := decide_eq_false hz
            go_wp2
            go_loopg [16] D.length (fun kq v16 w' => ∃ k : Nat, v16 = .int .i64 k ∧ Aside0 (kq + k = D.length ∧ Below w9.heap.size w9 w'))
            case atStart => exact ⟨0, rfl, ⟨by omega, Below.refl _ _⟩⟩
            case round =>
              obtain ⟨k, rfl, HR3⟩ := hrel
              have HK3 := Aside0.mk HR3.out.1
              have HB3 := Aside0.mk HR3.out.2
              clear HR3
              by_cases hlk : k < D.length
              · cases gk with
                | zero => exact absurd HK3.out (by omega)
                | succ k2 =>
                have b7 : decide ((k : Int) < (D.length : Int)) = true := decide_eq_true (by omega)
                have b8 : decide (k < D.length) = true := decide_eq_true hlk
                have hwj : wrap64 ((j : Int) + 1) = (j : Int) + 1 := w64_in (by omega) (by have := HTT.out.2.1; omega)
                obtain ⟨ad3, A9, c9, e3, hx0, hx1, hx2, hx3, hl3, hi3⟩ := at_T25 (Kd.C_below (Kd.V_reads' HVD.out).2.2 HB3.out) (k : Int) (by omega) (by omega)
                simp only [Int.toNat_natCast] at hx0
                subst e3
                have hxe : (rd_T25 D (k : Int)).f0 = (j : Int) + 1 := by
                  unfold rd_T25
                  rw [Int.toNat_natCast, Hp.getD_lt _ _ _ hlk]
                  exact HD.out.1 _ (List.getElem_mem _)
                rw [hxe] at hx0
                clear hx1 hx2 hx3 hl3 hi3 hxe
                go_wp2
                have HJ3 := Aside0.mk (up1 k (by have := HD.out.2; have := HL.out.len; omega))
                have HN3 := Aside0.mk (show k2 + (k + 1) = D.length ∧ Below w9.heap.size w9 _ from ⟨by have := HK3.out; omega, HB3.out⟩)
                go_roundg k2
                case measure => exact Nat.lt_succ_self _
                case rel => exact ⟨k + 1, by first | exact congrArg (Value.int .i64) HJ3.out | rfl, HN3⟩
              · have b7 : decide ((k : Int) < (D.length : Int)) = false := decide_eq_false (by omega)
                have b8 : decide (k < D.length) = false := decide_eq_false hlk
                have n_ := Aside0.mk (HQ.out.step HB3.out)
                have HQ9 := n_
                clear n_
                have HVR9 := Aside0.mk (Kd.V_below HVR.out HB3.out)
                have K13b := Aside0.mk ((HB3.out.block _ (blk_lt K13.out)).trans K13.out)
                clear HQ HVR K13 HB3 HVD
                have hwj : wrap64 ((j : Int) + 1) = (j : Int) + 1 := w64_in (by omega) (by have := HTT.out.2.1; omega)
                have hwc : wrap64 ((came : Int) + (D.length : Int)) = ((came + D.length : Nat) : Int) := (w64_in (by have := HC.out; have := HL.out.ln; have := HD.out.2; omega) (by have := HC.out; have := HL.out.ln; have := HD.out.2; omega)).trans (by omega)
                have q0 : wr.cell? ⟨g13, 0, none⟩ = some (.int .i64 ((j : Int) + 1)) := blk_cell K13b.out 0
                have q1 : wr.cell? ⟨g13, 1, none⟩ = some (.int .i64 0) := blk_cell K13b.out 1
                have q2 : wr.cell? ⟨g13, 2, none⟩ = some (.slice B2 R.length d2) := blk_cell K13b.out 2
                have q3 : wr.cell? ⟨g13, 3, none⟩ = some (.slice Af ([] : List S51).length cf) := blk_cell K13b.out 3
                go_wp2_with ((with_reducible refine gate_store (t := 44) (p := 5) rfl ?_); refine Aside0.out (p := _) ?_)
                refine Aside0.mk ?_
                refine store_seg [.int .i64 ((j : Int) + 1), .int .i64 0, .slice B2 R.length d2, .slice Af ([] : List S51).length cf] #[.int .i64 ((j : Int) + 1), .int .i64 0, .slice B2 R.length d2, .slice Af ([] : List S51).length cf] HQ9.out.k5 rfl rfl rfl rfl rfl rfl (by kernel_rfl) (by simp) (by
                  intro q hq
                  simp only [List.mem_cons, List.not_mem_nil, or_false] at hq
                  first | (rcases hq with rfl | rfl | rfl | rfl <;> rfl) | (subst hq; rfl)) rfl ?_
                intro w10 hk hne hB
                clear q0 q1 q2 q3
                have HQ10 := Aside0.mk (HQ9.out.put5 HVR9.out hk hne hB HR.out)
                have hcast := tk3 j
                have HN := Aside0.mk (show k1 + (j + 1) = T ∧ (came + D.length) + R.length = ins.length ∧ LAt ins R ((j + 1 : Nat) : Int) ∧ QAt w w10 g5 l ins R ((j + 1 : Nat) : Int) Al u7 B2 d2 Af cf from ⟨tk1 HK.out, tk2 HC.out HD.out.2, by rw [hcast]; exact HLR.out, by rw [hcast]; exact HQ10.out⟩)
                clear hk hne hB HQ9 HVR9 K13b HQ10 hcast
                go_wp2
                go_roundg k1
                case measure => exact Nat.lt_succ_self _
                case rel => exact ⟨j + 1, came + D.length, R, B2, d2, by first | exact congrArg (Value.int .i64) hwc | rfl, by first | exact congrArg (Value.int .i64) (hwj.trans (by omega)) | rfl, HN⟩
        · have hjT := tk4 hlt gk HK.out
          subst hjT
          have b1 : decide ((j : Int) < (j : Int)) = false := decide_eq_false (by omega)
          have b2 : decide (j < j) = false := decide_eq_false hlt
          obtain ⟨A7, c7, rfl⟩ := Kd.N_slice HQ.out.vi
          clear hlt HK
          generalize wr = w10 at HQ ⊢
          go_wp2
          clear b1 b2
          rw [hwr]
          go_loopg [17, 18] ins.length (fun kq v17 v18 w' => ∃ k due : Nat, v17 = .int .i64 due ∧ v18 = .int .i64 k ∧ Aside0 (kq + k = ins.length ∧ due = ((ins.take k).filter (fun x => decide (x.f0 ≤ (j : Int)))).length ∧ Below w10.heap.size w10 w'))
          case atStart => exact ⟨0, 0, rfl, rfl, ⟨by omega, rfl, Below.refl _ _⟩⟩
          case round =>
            obtain ⟨k, due, rfl, rfl, HR4⟩ := hrel
            have HK4 := Aside0.mk HR4.out.1
            have HD4 := Aside0.mk HR4.out.2.1
            have HB4 := Aside0.mk HR4.out.2.2
            clear HR4
            by_cases hlk : k < ins.length
            · cases gk with
              | zero => exact absurd HK4.out (by omega)
              | succ k2 =>
              have b7 : decide ((k : Int) < (ins.length : Int)) = true := decide_eq_true (by omega)
              have b8 : decide (k < ins.length) = true := decide_eq_true hlk
              obtain ⟨ad3, A9, c9, e3, hx0, hx1, hx2, hx3, hl3, hi3⟩ := at_T25 (Kd.C_below (Kd.N_reads' HQ.out.vi).2.2 HB4.out) (k : Int) (by omega) (by omega)
              simp only [Int.toNat_natCast] at hx0
              subst e3
              have hxe : rd_T25 ins (k : Int) = ins.getD k z25 := by unfold rd_T25; rw [Int.toNat_natCast]
              rw [hxe] at hx0
              clear hx1 hx2 hx3 hl3 hi3 hxe
              obtain ⟨u, hu⟩ : ∃ u, u = ins.getD k z25 := ⟨_, rfl⟩
              have hcs := cnt_step (T := (j : Int)) hlk
              rw [← hu] at hx0 hcs
              have HCS := Aside0.mk hcs
              clear hcs hu
              have HJ4 := Aside0.mk (up1 k (by have := HL.out.ln; omega))
              have HJ5 := Aside0.mk (up1 due (by have h1 := HD4.out; have h2 : ((ins.take k).filter (fun x => decide (x.f0 ≤ (j : Int)))).length ≤ (ins.take k).length := List.length_filter_le _ _; have h3 : (ins.take k).length ≤ ins.length := (by rw [List.length_take]; exact Nat.min_le_right _ _); have h4 := HL.out.ln; omega))
              by_cases hle : u.f0 ≤ (j : Int)
              · have b9 : decide (u.f0 ≤ (j : Int)) = true := decide_eq_true hle
                have HN4 := Aside0.mk (show k2 + (k + 1) = ins.length ∧ due + 1 = ((ins.take (k + 1)).filter (fun x => decide (x.f0 ≤ (j : Int)))).length ∧ Below w10.heap.size w10 _ from ⟨tk1 HK4.out, by rw [HCS.out, if_pos hle, ← HD4.out], HB4.out⟩)
                clear HCS HK4 HD4 HB4
                go_wp2
                go_roundg k2
                case measure => exact Nat.lt_succ_self _
                case rel => exact ⟨k + 1, due + 1, by first | exact congrArg (Value.int .i64) HJ5.out | rfl, by first | exact congrArg (Value.int .i64) HJ4.out | rfl, HN4⟩
              · have b9 : decide (u.f0 ≤ (j : Int)) = false := decide_eq_false hle
                have HN4 := Aside0.mk (show k2 + (k + 1) = ins.length ∧ due = ((ins.take (k + 1)).filter (fun x => decide (x.f0 ≤ (j : Int)))).length ∧ Below w10.heap.size w10 _ from ⟨tk1 HK4.out, by rw [HCS.out, if_neg hle, Nat.add_zero, ← HD4.out], HB4.out⟩)
                clear HCS HK4 HD4 HB4
                go_wp2
                go_roundg k2
                case measure => exact Nat.lt_succ_self _
                case rel => exact ⟨k + 1, due, rfl, by first | exact congrArg (Value.int .i64) HJ4.out | rfl, HN4⟩
            · have b7 : decide ((k : Int) < (ins.length : Int)) = false := decide_eq_false (by omega)
              have b8 : decide (k < ins.length) = false := decide_eq_false hlk
              have hdc := cnt_end (tk4 hlk gk HK4.out) HD4.out HC.out HL.out
              subst hdc
              have n_ := Aside0.mk (HQ.out.step HB4.out)
              clear HQ
              have HQ := n_
              clear n_ HB4 HD4 HK4 hlk
              have q0 : wr.cell? ⟨g5, 0, none⟩ = some (.int .i64 (j : Int)) := blk_cell HQ.out.k5 0
              have q1 : wr.cell? ⟨g5, 1, none⟩ = some (.int .i64 0) := blk_cell HQ.out.k5 1
              have q2 : wr.cell? ⟨g5, 2, none⟩ = some (.slice B way.length d) := blk_cell HQ.out.k5 2
              have q3 : wr.cell? ⟨g5, 3, none⟩ = some (.slice Af ([] : List S51).length cf) := blk_cell HQ.out.k5 3
              go_wp2_with ((with_reducible refine gate_dst (N := 144) rfl ?_); refine Aside0.out (p := _) ?_)
              refine Aside0.mk ?_
              refine Kd.N_lit (Kd.int .u8) (w0 := wr) (wr).heap.size 5 (by rfl) (N' := 144) rfl (xs := aS) (inner := [.int .u8 5]) (ok := fun _ => True) (okp := fun _ => True) ?hr ?hp (fun _ hk => hk) trivial (Below.refl _ _) (Nat.le_refl _) (by decide) ?_
              case hr => first | (go_simp; done) | (go_simp; rfl)
              case hp => exact Reps.front (c := [.int .u8 5]) (fun _ _ => rfl) rfl (Reps.none _ _) rfl
              intro x1 v1 hn hb _ _
              obtain ⟨A16, c16, rfl⟩ := Kd.N_slice hn
              have HN1 := Aside0.mk hn
              clear q0 q1 q2 q3
              have n_ := Aside0.mk (HQ.out.step hb)
              clear HQ
              have HQ := n_
              clear n_
              clear hn hb b7 b8
              have q0 : v1.cell? ⟨g5, 0, none⟩ = some (.int .i64 (j : Int)) := blk_cell HQ.out.k5 0
              have q1 : v1.cell? ⟨g5, 1, none⟩ = some (.int .i64 0) := blk_cell HQ.out.k5 1
              have q2 : v1.cell? ⟨g5, 2, none⟩ = some (.slice B way.length d) := blk_cell HQ.out.k5 2
              have q3 : v1.cell? ⟨g5, 3, none⟩ = some (.slice Af ([] : List S51).length cf) := blk_cell HQ.out.k5 3
              go_wp2_with ((with_reducible refine gate_dst (N := 145) rfl ?_); refine Aside0.out (p := _) ?_)
              refine Aside0.mk ?_
              refine goesL_ (some 145) rfl rfl Try.func23 (by kernel_rfl) rfl #[.agg #[.int .i64 (j : Int), .int .i64 0, .slice B way.length d, .slice Af ([] : List S51).length cf], .int .i64 1, .slice A16 aS.length c16] rfl (by (try simp only [List.map_toArray, List.map_cons, List.map_nil, List.append_toArray, List.cons_append, List.nil_append]); first | done | rfl) ?_
              clear q0 q1 q2 q3
              have hv1 := Kd.V_reads' HQ.out.vw
              have hv2 := Kd.V_reads' HQ.out.vf
              have hgo := HL.out.goes (by omega) (by have := HTT.out.2.1; omega)
              refine (sendC hv1.2.2 hv1.2.1 hv2.2.2 hv2.2.1 (Kd.N_reads' HN1.out).2.2 (Kd.N_reads' HN1.out).2.1 ⟨by have := HL.out.len; omega, by decide⟩ HL.out.bnd (by decide) hgo (Or.inr rfl)).mono ?_
              clear hv1 hv2 hgo
              rw [send_slip (fun x hx => (HL.out.mem hx).1)]
              rintro e v2 ⟨B4, d4, rfl, hv, hb⟩
              refine ⟨_, rfl, ?_⟩
              obtain ⟨W, hW⟩ : ∃ t, t = Hp.srt ltL ((⟨(j : Int) + 1, 0, 1, aS⟩ : S25) :: way) := ⟨_, rfl⟩
              rw [← hW] at hv ⊢
              have HW := Aside0.mk hW
              clear hW
              have HV4 := Aside0.mk (Kd.V_bound hv)
              have n_ := Aside0.mk (HQ.out.step hb)
              clear HQ
              have HQ := n_
              clear n_
              clear hv hb HN1
              go_wp2_with ((with_reducible refine gate_dst (N := 19) rfl ?_); refine Aside0.out (p := _) ?_)
              refine Aside0.mk ?_
              refine box_event (by rfl) (N := 19) rfl (cs := #[.int .i64 0, .int .i64 0, .slice none 0 0, .slice none 0 0]) (t := 44) ?hr ?_
              case hr => first | (go_simp; done) | (go_simp; rfl)
              intro g19 hg19 v3 kg19 bg19
              have G19 := Aside0.mk (And.intro hg19 (And.intro kg19 bg19))
              clear hg19 kg19 bg19
              go_wp2_with ((with_reducible refine gate_store (t := 44) (p := 19) rfl ?_); refine Aside0.out (p := _) ?_)
              refine Aside0.mk ?_
              refine store_seg [.int .i64 (j : Int), .int .i64 (0 + 1), .slice B4 W.length d4, .slice Af ([] : List S51).length cf] #[.int .i64 (j : Int), .int .i64 (0 + 1), .slice B4 W.length d4, .slice Af ([] : List S51).length cf] G19.out.2.1 rfl rfl rfl rfl rfl rfl (by kernel_rfl) (by simp) (by
                intro q hq
                simp only [List.mem_cons, List.not_mem_nil, or_false] at hq
                first | (rcases hq with rfl | rfl | rfl | rfl <;> rfl) | (subst hq; rfl)) rfl ?_
              intro v4 hk hne hB
              have hb := hB _ _ (Nat.le_of_eq G19.out.1.symm) G19.out.2.2
              have n_ := Aside0.mk (HQ.out.step hb)
              clear HQ
              have HQ := n_
              clear n_
              have n_ := Aside0.mk (Kd.V_below HV4.out hb)
              clear HV4
              have HV4 := n_
              clear n_
              have K19 := Aside0.mk hk
              clear hk hne hB hb G19
              have hwj : wrap64 ((j : Int) + 1) = (j : Int) + 1 := w64_in (by omega) (by have := HTT.out.2.1; omega)
              have q0 : v4.cell? ⟨g5, 0, none⟩ = some (.int .i64 (j : Int)) := blk_cell HQ.out.k5 0
              have q1 : v4.cell? ⟨g5, 1, none⟩ = some (.int .i64 0) := blk_cell HQ.out.k5 1
              have q2 : v4.cell? ⟨g5, 2, none⟩ = some (.slice B way.length d) := blk_cell HQ.out.k5 2
              have q3 : v4.cell? ⟨g5, 3, none⟩ = some (.slice Af ([] : List S51).length cf) := blk_cell HQ.out.k5 3
              go_wp2_with ((with_reducible refine gate_dst (N := 153) rfl ?_); refine Aside0.out (p := _) ?_)
              refine Aside0.mk ?_
              refine Kd.N_lit (Kd.int .u8) (w0 := v4) (v4).heap.size 5 (by rfl) (N' := 153) rfl (xs := aS) (inner := [.int .u8 5]) (ok := fun _ => True) (okp := fun _ => True) ?hr ?hp (fun _ hk => hk) trivial (Below.refl _ _) (Nat.le_refl _) (by decide) ?_
              case hr => first | (go_simp; done) | (go_simp; rfl)
              case hp => exact Reps.front (c := [.int .u8 5]) (fun _ _ => rfl) rfl (Reps.none _ _) rfl
              intro x2 v5 hn hb _ _
              obtain ⟨A18, c18, rfl⟩ := Kd.N_slice hn
              have HN2 := Aside0.mk hn
              clear q0 q1 q2 q3
              have n_ := Aside0.mk (HQ.out.step hb)
              clear HQ
              have HQ := n_
              clear n_
              have n_ := Aside0.mk (Kd.V_below HV4.out hb)
              clear HV4
              have HV4 := n_
              clear n_
              have n_ := Aside0.mk ((hb.block _ (blk_lt K19.out)).trans K19.out)
              clear K19
              have K19 := n_
              clear n_
              clear hn hb
              have q0 : v5.cell? ⟨g5, 0, none⟩ = some (.int .i64 (j : Int)) := blk_cell HQ.out.k5 0
              have q1 : v5.cell? ⟨g5, 1, none⟩ = some (.int .i64 0) := blk_cell HQ.out.k5 1
              have q2 : v5.cell? ⟨g5, 2, none⟩ = some (.slice B way.length d) := blk_cell HQ.out.k5 2
              have q3 : v5.cell? ⟨g5, 3, none⟩ = some (.slice Af ([] : List S51).length cf) := blk_cell HQ.out.k5 3
              go_wp2_with ((with_reducible refine gate_dst (N := 155) rfl ?_); refine Aside0.out (p := _) ?_)
              refine Aside0.mk ?_
              refine goesL_ (some 155) rfl rfl Try.func26 (by kernel_rfl) rfl #[.agg #[.int .i64 (j : Int), .int .i64 0, .slice B way.length d, .slice Af ([] : List S51).length cf], .agg #[.int .i64 ((j : Int) + 1), .int .i64 0, .int .i64 1, .slice A18 aS.length c18]] rfl (by (try simp only [List.map_toArray, List.map_cons, List.map_nil, List.append_toArray, List.cons_append, List.nil_append]); first | done | rfl) ?_
              clear q0 q1 q2 q3
              have hv1 := Kd.V_reads' HQ.out.vw
              have hv2 := Kd.V_reads' HQ.out.vf
              have hgo := HL.out.goes (by omega) (by have := HTT.out.2.1; omega)
              refine (slipOk (x := ⟨(j : Int) + 1, 0, 1, aS⟩) hv1.2.2 hv1.2.1 hv2.2.2 hv2.2.1 (Kd.N_reads' HN2.out).2.2 (Kd.N_reads' HN2.out).2.1 ⟨by have := HL.out.len; omega, by decide⟩ hgo ⟨Or.inr rfl, Int.lt_succ _⟩ (bndB_iff.mpr ⟨by rw [List.length_cons]; have := HL.out.len; omega, fun x hx => by
                rcases List.mem_cons.mp hx with h | h
                · rw [h]; exact good_aS _ _ _
                · exact (HL.out.mem h).1⟩)).mono ?_
              clear hv1 hv2 hgo
              rw [← HW.out]
              rintro e v6 ⟨B6, d6, rfl, hv, hb⟩
              refine ⟨_, rfl, ?_⟩
              have HV6 := Aside0.mk (Kd.V_bound hv)
              have n_ := Aside0.mk (HQ.out.step hb)
              clear HQ
              have HQ := n_
              clear n_
              have n_ := Aside0.mk (Kd.V_below HV4.out hb)
              clear HV4
              have HV4 := n_
              clear n_
              have n_ := Aside0.mk ((hb.block _ (blk_lt K19.out)).trans K19.out)
              clear K19
              have K19 := n_
              clear n_
              clear hv hb HN2
              go_wp2_with ((with_reducible refine gate_dst (N := 21) rfl ?_); refine Aside0.out (p := _) ?_)
              refine Aside0.mk ?_
              refine box_event (by rfl) (N := 21) rfl (cs := #[.int .i64 0, .int .i64 0, .slice none 0 0, .slice none 0 0]) (t := 44) ?hr ?_
              case hr => first | (go_simp; done) | (go_simp; rfl)
              intro g21 hg21 v7 kg21 bg21
              have G21 := Aside0.mk (And.intro hg21 (And.intro kg21 bg21))
              clear hg21 kg21 bg21
              go_wp2_with ((with_reducible refine gate_store (t := 44) (p := 21) rfl ?_); refine Aside0.out (p := _) ?_)
              refine Aside0.mk ?_
              refine store_seg [.int .i64 (j : Int), .int .i64 0, .slice B6 W.length d6, .slice Af ([] : List S51).length cf] #[.int .i64 (j : Int), .int .i64 0, .slice B6 W.length d6, .slice Af ([] : List S51).length cf] G21.out.2.1 rfl rfl rfl rfl rfl rfl (by kernel_rfl) (by simp) (by
                intro q hq
                simp only [List.mem_cons, List.not_mem_nil, or_false] at hq
                first | (rcases hq with rfl | rfl | rfl | rfl <;> rfl) | (subst hq; rfl)) rfl ?_
              intro v8 hk hne hB
              have hb := hB _ _ (Nat.le_of_eq G21.out.1.symm) G21.out.2.2
              have n_ := Aside0.mk (HQ.out.step hb)
              clear HQ
              have HQ := n_
              clear n_
              have n_ := Aside0.mk (Kd.V_below HV4.out hb)
              clear HV4
              have HV4 := n_
              clear n_
              have n_ := Aside0.mk ((hb.block _ (blk_lt K19.out)).trans K19.out)
              clear K19
              have K19 := n_
              clear n_
              have n_ := Aside0.mk (Kd.V_below HV6.out hb)
              clear HV6
              have HV6 := n_
              clear n_
              have K21 := Aside0.mk hk
              clear hk hne hB hb G21
              have q0 : v8.cell? ⟨g5, 0, none⟩ = some (.int .i64 (j : Int)) := blk_cell HQ.out.k5 0
              have q1 : v8.cell? ⟨g5, 1, none⟩ = some (.int .i64 0) := blk_cell HQ.out.k5 1
              have q2 : v8.cell? ⟨g5, 2, none⟩ = some (.slice B way.length d) := blk_cell HQ.out.k5 2
              have q3 : v8.cell? ⟨g5, 3, none⟩ = some (.slice Af ([] : List S51).length cf) := blk_cell HQ.out.k5 3
              have p0 : v8.cell? ⟨g19, 0, none⟩ = some (.int .i64 (j : Int)) := blk_cell K19.out 0
              have p1 : v8.cell? ⟨g19, 1, none⟩ = some (.int .i64 (0 + 1)) := blk_cell K19.out 1
              have p2 : v8.cell? ⟨g19, 2, none⟩ = some (.slice B4 W.length d4) := blk_cell K19.out 2
              have p3 : v8.cell? ⟨g19, 3, none⟩ = some (.slice Af ([] : List S51).length cf) := blk_cell K19.out 3
              have r0 : v8.cell? ⟨g21, 0, none⟩ = some (.int .i64 (j : Int)) := blk_cell K21.out 0
              have r1 : v8.cell? ⟨g21, 1, none⟩ = some (.int .i64 0) := blk_cell K21.out 1
              have r2 : v8.cell? ⟨g21, 2, none⟩ = some (.slice B6 W.length d6) := blk_cell K21.out 2
              have r3 : v8.cell? ⟨g21, 3, none⟩ = some (.slice Af ([] : List S51).length cf) := blk_cell K21.out 3
              go_wp2_with ((with_reducible refine gate_dst (N := 183) rfl ?_); refine Aside0.out (p := _) ?_)
              refine Aside0.mk ?_
              refine gate_guard (by rfl) ?_
              dsimp only
              refine goesL_ (some 183) rfl rfl Try.func17 (by kernel_rfl) rfl #[.slice B4 W.length d4, .slice B6 W.length d6] rfl (by (try simp only [List.map_toArray, List.map_cons, List.map_nil, List.append_toArray, List.cons_append, List.nil_append]); first | done | rfl) ?_
              have hv1 := Kd.V_reads' HV4.out
              have hv2 := Kd.V_reads' HV6.out
              refine (sameC _ B4 d4 B6 d6 W hv1.2.2 hv1.2.1 hv2.2.2 hv2.2.1 (by rw [HW.out, (Hp.srt_perm _).length_eq, List.length_cons]; have := HL.out.len; omega)).mono ?_
              clear hv1 hv2
              rintro e v9 ⟨rfl, hb⟩
              refine ⟨_, rfl, ?_⟩
              have n_ := Aside0.mk (HQ.out.step hb)
              clear HQ
              have HQ := n_
              clear n_
              have n_ := Aside0.mk (Kd.V_below HV4.out hb)
              clear HV4
              have HV4 := n_
              clear n_
              have n_ := Aside0.mk ((hb.block _ (blk_lt K19.out)).trans K19.out)
              clear K19
              have K19 := n_
              clear n_
              clear q0 q1 q2 q3
              clear p0 p1 p2 p3
              clear r0 r1 r2 r3
              have n_ := Aside0.mk ((hb.block _ (blk_lt K21.out)).trans K21.out)
              clear K21
              have K21 := n_
              clear n_ hb
              have q0 : v9.cell? ⟨g5, 0, none⟩ = some (.int .i64 (j : Int)) := blk_cell HQ.out.k5 0
              have q1 : v9.cell? ⟨g5, 1, none⟩ = some (.int .i64 0) := blk_cell HQ.out.k5 1
              have q2 : v9.cell? ⟨g5, 2, none⟩ = some (.slice B way.length d) := blk_cell HQ.out.k5 2
              have q3 : v9.cell? ⟨g5, 3, none⟩ = some (.slice Af ([] : List S51).length cf) := blk_cell HQ.out.k5 3
              have p0 : v9.cell? ⟨g19, 0, none⟩ = some (.int .i64 (j : Int)) := blk_cell K19.out 0
              have p1 : v9.cell? ⟨g19, 1, none⟩ = some (.int .i64 (0 + 1)) := blk_cell K19.out 1
              have p2 : v9.cell? ⟨g19, 2, none⟩ = some (.slice B4 W.length d4) := blk_cell K19.out 2
              have p3 : v9.cell? ⟨g19, 3, none⟩ = some (.slice Af ([] : List S51).length cf) := blk_cell K19.out 3
              have r0 : v9.cell? ⟨g21, 0, none⟩ = some (.int .i64 (j : Int)) := blk_cell K21.out 0
              have r1 : v9.cell? ⟨g21, 1, none⟩ = some (.int .i64 0) := blk_cell K21.out 1
              have r2 : v9.cell? ⟨g21, 2, none⟩ = some (.slice B6 W.length d6) := blk_cell K21.out 2
              have r3 : v9.cell? ⟨g21, 3, none⟩ = some (.slice Af ([] : List S51).length cf) := blk_cell K21.out 3
              go_wp2
              go_ret
              exact ⟨rfl, HQ.out.ba⟩
end Go.Proofs.Ytghkngdcmlhmeaa.Nq
namespace Go.Proofs.Ytghkngdcmlhmeaa.Qw
open Go.RowKit Go.Proofs Go.Proofs.Ytghkngdcmlhmeaa.PQu Go.Proofs.YtghkngdcmlhmeaaW.PrintWords Go.Proofs.Ytghkngdcmlhmeaa.Qp Go.Proofs.Ytghkngdcmlhmeaa.Qs Go.Proofs.Ytghkngdcmlhmeaa.Spec
theorem netQuiet.walk (w : World) (A0 : Option Addr) (c0 : Nat) (x0 : List S25) (a1 : Int) (hr0 : Kd.C k25 w A0 x0.length x0) (hc0 : x0.length ≤ c0) (w0 : x0.length ≤ maxLen ∧ x0.length * 48 ≤ 140737488351232 ∧ ∀ y_ ∈ x0, wf25 y_) (w1 : (Lit.int .u8 a1).wf = true) :
    Calls Try.prog 7 #[.slice A0 x0.length c0, .int .u8 a1] w fun e w' => e = .returned (.bool true) ∧ Below w.heap.size w w' :=
  Nq.quiet.calls w A0 c0 x0 a1 hr0 hc0 (wfL.good w0) (wf8 w1)
end Go.Proofs.Ytghkngdcmlhmeaa.Qw

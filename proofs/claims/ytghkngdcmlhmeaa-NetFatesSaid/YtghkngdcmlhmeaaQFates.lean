/- NetFates: the walk. -/
import Derived.Test.YtghkngdcmlhmeaaQAwake21
set_option linter.unusedVariables false
set_option linter.unusedSimpArgs false
set_option linter.unusedSectionVars false
namespace Go.Proofs.Ytghkngdcmlhmeaa.Nf
open Go.RowKit Go.Proofs Go.Proofs.Ytghkngdcmlhmeaa.PQu Go.Proofs.YtghkngdcmlhmeaaW.PrintWords Go.Proofs.YtghkngdcmlhmeaaW.PrintLast Go.Proofs.YtghkngdcmlhmeaaW.PrintMore Go.Proofs.Ytghkngdcmlhmeaa.Qp Go.Proofs.Ytghkngdcmlhmeaa.Qs Go.Proofs.Ytghkngdcmlhmeaa.Qn Go.Proofs.Ytghkngdcmlhmeaa.Qw Go.Proofs.Ytghkngdcmlhmeaa.Nw Go.Proofs.Ytghkngdcmlhmeaa.Spec
/-- What is done with a net. -/
structure S49 where
  f0 : Int
  f1 : Int
def z49 : S49 := ⟨0, 0⟩
def k49 : Kd S49 := Kd.iso (Kd.pair (Kd.int .u8) (Kd.int .u8)) (fun x : S49 => (x.f0, x.f1))
theorem k49_open {w : World} {x : S49} {cs : List Value} (h : k49.K w x cs) : cs = [.int .u8 x.f0, .int .u8 x.f1] := by
  obtain ⟨_, _, rfl, rfl, rfl⟩ := h
  exact rfl
def rd_T49 (xs : List S49) (i : Int) : S49 := xs.getD i.toNat z49
theorem at_T49 {w : World} {A : Option Addr} {n : Nat} {xs : List S49} (h : Kd.C k49 w A n xs) (i : Int) (h0 : 0 ≤ i) (h1 : i < n) : ∃ ad, A = some ad ∧ w.cell? (ad.add (i.toNat * 2)) = some (.int .u8 (rd_T49 xs i).f0) ∧ w.cell? ⟨(ad.add (i.toNat * 2)).block, (ad.add (i.toNat * 2)).off + 1, none⟩ = some (.int .u8 (rd_T49 xs i).f1) := by
  obtain ⟨ad, c, e, _, hK, hc0⟩ := Kd.C_get h z49 i h0 h1
  have hc : ∀ j u, c[j]? = some u → w.cell? (ad.add (i.toNat * 2 + j)) = some u := hc0
  obtain rfl := k49_open hK
  exact ⟨ad, e, hc 0 _ rfl, by rw [← add_field _ _ 1 (by omega)]; exact hc 1 _ rfl⟩
structure GAt (w W : World) (g5 : Nat) (fs : List S51) (want way : List S25) (now sent : Int) (v7 : Value) (B : Option Addr) (d : Nat) (Af : Option Addr) (cf : Nat) : Prop where
  ba : Below w.heap.size w W
  k5 : W.heap[g5]? = some (.cells #[.int .i64 now, .int .i64 sent, .slice B way.length d, .slice Af fs.length cf] 44 (0, 0))
  vi : Kd.N k25 25 W w.heap.size (fun k => k ≠ g5) v7 want
  vw : Kd.V k25 25 W w.heap.size (fun k => (w.heap.size ≤ k ∧ k ≠ g5) ∧ some k ≠ (v7 : Value).ownBlock) (.slice B way.length d) way
  vf : Kd.V k51 51 W w.heap.size (fun k => (w.heap.size ≤ k ∧ k ≠ g5) ∧ some k ≠ (v7 : Value).ownBlock) (.slice Af fs.length cf) fs
  og : w.heap.size ≤ g5
  o7 : some g5 ≠ v7.ownBlock
theorem GAt.step {w W W' : World} {g5 : Nat} {fs : List S51} {want way : List S25} {now sent : Int} {v7 : Value} {B : Option Addr} {d : Nat} {Af : Option Addr} {cf : Nat} (h : GAt w W g5 fs want way now sent v7 B d Af cf) (hb : Below W.heap.size W W') : GAt w W' g5 fs want way now sent v7 B d Af cf :=
  ⟨h.ba.trans (hb.mono h.ba.size), (hb.block _ (blk_lt h.k5)).trans h.k5, Kd.N_below h.vi hb, Kd.V_below h.vw hb, Kd.V_below h.vf hb, h.og, h.o7⟩
theorem GAt.put5 {w W W' : World} {g5 : Nat} {fs : List S51} {want way way' : List S25} {now sent now' sent' : Int} {v7 : Value} {B B' : Option Addr} {d d' : Nat} {Af : Option Addr} {cf : Nat} (h : GAt w W g5 fs want way now sent v7 B d Af cf) (hv : Kd.V k25 25 W w.heap.size (fun k => (w.heap.size ≤ k ∧ k ≠ g5) ∧ some k ≠ (v7 : Value).ownBlock) (.slice B' way'.length d') way') (hk : W'.heap[g5]? = some (.cells #[.int .i64 now', .int .i64 sent', .slice B' way'.length d', .slice Af fs.length cf] 44 (0, 0))) (hne : ∀ k, k ≠ g5 → W'.heap[k]? = W.heap[k]?) (hB : ∀ w0 B, B ≤ g5 → Below B w0 W → Below B w0 W') : GAt w W' g5 fs want way' now' sent' v7 B' d' Af cf :=
  have hb := hB _ _ h.og h.ba
  ⟨hb, hk, Kd.N_step h.vi (fun k hk _ => hne k hk), Kd.V_step hv (fun k hk _ => hne k hk.1.2), Kd.V_step h.vf (fun k hk _ => hne k hk.1.2), h.og, h.o7⟩
theorem GAt.fresh {w W W' : World} {g5 : Nat} {fs : List S51} {t want way : List S25} {now sent : Int} {v7 : Value} {B B' : Option Addr} {d d' : Nat} {Af : Option Addr} {cf : Nat} (h : GAt w W g5 fs want way now sent v7 B d Af cf) (hv : Kd.V k25 25 W' W.heap.size (fun k => W.heap.size ≤ k) (.slice B' t.length d') t) : Kd.V k25 25 W' w.heap.size (fun k => (w.heap.size ≤ k ∧ k ≠ g5) ∧ some k ≠ (v7 : Value).ownBlock) (.slice B' t.length d') t :=
  Kd.V_mono (Kd.V_lower hv h.ba.size) (fun k hk => by
    have h1 : W.heap.size ≤ k := hk
    have h2 := blk_lt h.k5
    have h3 := h.ba.size
    exact ⟨⟨by omega, by omega⟩, Kd.fresh' (Kd.N_lt h.vi) k h1⟩)
def later (ins : List S25) (i : Int) : List S25 := ins.filter (fun x => !decide (x.f0 ≤ i))
structure MAt (fs : List S51) (want way : List S25) (now sent : Int) (i : Nat) : Prop where
  pm : way.Perm (later want now)
  ok : ∀ x ∈ want, good x ∧ (x.f2 = 0 ∨ x.f2 = 1)
  ln : want.length ≤ 2 * i
  n0 : 0 ≤ now
  s0 : 0 ≤ sent
  sm : now + sent = i
  le : i ≤ 130
  rf : ∀ f ∈ fs, 0 ≤ f.f2 ∧ f.f2 ≤ 1000 ∧ 0 ≤ f.f3 ∧ f.f3 ≤ 1000
  fl : fs.length ≤ 60
section
variable {fs : List S51} {want way : List S25} {now sent : Int} {i : Nat}
theorem MAt.mem (h : MAt fs want way now sent i) {x : S25} (hx : x ∈ way) : good x ∧ (x.f2 = 0 ∨ x.f2 = 1) ∧ now < x.f0 := by
  have h1 := List.mem_filter.mp (h.pm.mem_iff.mp hx)
  have h2 := h.ok x h1.1
  have h4 : ¬ x.f0 ≤ now := fun h5 => by have := h1.2; simp [h5] at this
  exact ⟨h2.1, h2.2, by omega⟩
theorem MAt.len (h : MAt fs want way now sent i) : way.length ≤ 260 := by
  have h1 := h.pm.length_eq
  have h2 : (later want now).length ≤ want.length := List.length_filter_le _ _
  have h3 := h.ln
  have h4 := h.le
  omega
theorem MAt.goes (h : MAt fs want way now sent i) : goesB now sent way fs = true := by
  have h1 := h.n0; have h2 := h.s0; have h3 := h.sm; have h4 := h.le
  rw [goesB_iff]
  refine ⟨?_, by omega, by omega⟩
  unfold rightB wiB
  have e1 : way.any (badB now) = false := by
    rw [List.any_eq_false]
    intro x hx
    have h2 := h.mem hx
    unfold badB
    have h3 : ¬ x.f0 ≤ now := by omega
    rcases h2.2.1 with h4 | h4 <;> simp [h4, h3]
  have e2 : fs.any lateB = false := by
    rw [List.any_eq_false]
    intro f hf
    have h5 := h.rf f hf
    unfold lateB wiB
    simp [h5.1, h5.2.1, h5.2.2.1, h5.2.2.2]
  have h5 := h.len
  rw [e1, e2]
  simp only [Bool.not_false, Bool.and_true, Bool.and_eq_true, decide_eq_true_eq]
  omega
theorem MAt.bnd (h : MAt fs want way now sent i) : bndB way = true := bndB_iff.mpr ⟨by have := h.len; omega, fun x hx => (h.mem hx).1⟩
theorem MAt.fate (h : MAt fs want way now sent i) : 0 ≤ (fateAt fs sent).f2 ∧ (fateAt fs sent).f2 ≤ 1000 ∧ 0 ≤ (fateAt fs sent).f3 ∧ (fateAt fs sent).f3 ≤ 1000 := by
  unfold fateAt
  split
  · exact h.rf _ (rd_at fs h.s0 (by assumption))
  · exact ⟨by decide, by decide, by decide, by decide⟩
def one1 (now sent tt : Int) (b : Int) (f : S51) : List S25 := if f.f0 = true then [] else [⟨now + 1 + f.f2, sent, tt, [b]⟩]
def one2 (now sent tt : Int) (b : Int) (f : S51) : List S25 := if f.f1 = true then [⟨now + 1 + f.f3, sent, tt, [b]⟩] else []
theorem sendW_perm (tt b : Int) (f : S51) : (sendW now sent tt [b] way f).Perm (way ++ one1 now sent tt b f ++ one2 now sent tt b f) := by
  unfold sendW one1 one2
  have p1 : (if f.f0 = true then Hp.srt ltL way else Hp.srt ltL ((⟨now + 1 + f.f2, sent, tt, [b]⟩ : S25) :: Hp.srt ltL way)).Perm (way ++ (if f.f0 = true then [] else [(⟨now + 1 + f.f2, sent, tt, [b]⟩ : S25)])) := by
    split
    · rw [List.append_nil]; exact Hp.srt_perm _
    · exact (Hp.srt_perm _).trans ((List.Perm.cons _ (Hp.srt_perm _)).trans (List.perm_append_singleton _ _).symm)
  dsimp only
  split
  · exact (Hp.srt_perm _).trans ((List.Perm.cons _ p1).trans (List.perm_append_singleton _ _).symm)
  · rw [List.append_nil]; exact p1
theorem MAt.send (h : MAt fs want way now sent i) (hi : i < 130) {tt b : Int} (ht : tt = 0 ∨ tt = 1) (hb : 0 ≤ b ∧ b ≤ 255) : MAt fs (want ++ one1 now sent tt b (fateAt fs sent) ++ one2 now sent tt b (fateAt fs sent)) (sendW now sent tt [b] way (fateAt fs sent)) now (sent + 1) (i + 1) := by
  have hf := h.fate
  have e1 : later (one1 now sent tt b (fateAt fs sent)) now = one1 now sent tt b (fateAt fs sent) := by
    unfold later one1
    split
    · rfl
    · have : ¬ now + 1 + (fateAt fs sent).f2 ≤ now := by omega
      simp [this]
  have e2 : later (one2 now sent tt b (fateAt fs sent)) now = one2 now sent tt b (fateAt fs sent) := by
    unfold later one2
    split
    · have : ¬ now + 1 + (fateAt fs sent).f3 ≤ now := by omega
      simp [this]
    · rfl
  have hgb : ∀ a c : Int, good (⟨a, c, tt, [b]⟩ : S25) := fun a c => ⟨(by decide : (1 : Nat) < 140737488355328), fun x hx => by
    have : x = b := by simpa using hx
    rw [this]; exact hb⟩
  refine ⟨?_, fun x hx => ?_, ?_, h.n0, by have := h.s0; omega, by have := h.sm; omega, by omega, h.rf, h.fl⟩
  · refine (sendW_perm tt b _).trans ?_
    unfold later at e1 e2 ⊢
    rw [List.filter_append, List.filter_append, e1, e2]
    exact (h.pm.append_right _).append_right _
  · rcases List.mem_append.mp hx with hx | hx
    · rcases List.mem_append.mp hx with hx | hx
      · exact h.ok x hx
      · unfold one1 at hx
        split at hx
        · simp at hx
        · simp at hx; subst hx; exact ⟨hgb _ _, ht⟩
    · unfold one2 at hx
      split at hx
      · simp at hx; subst hx; exact ⟨hgb _ _, ht⟩
      · simp at hx
  · have h1 : (one1 now sent tt b (fateAt fs sent)).length ≤ 1 := by unfold one1; split <;> simp
    have h2 : (one2 now sent tt b (fateAt fs sent)).length ≤ 1 := by unfold one2; split <;> simp
    have h3 := h.ln
    rw [List.length_append, List.length_append]
    omega
theorem MAt.tick (h : MAt fs want way now sent i) (hi : i < 130) : MAt fs want (dueR way (now + 1)) (now + 1) sent (i + 1) := by
  refine ⟨?_, h.ok, by have := h.ln; omega, by have := h.n0; omega, h.s0, by have := h.sm; omega, by omega, h.rf, h.fl⟩
  refine ((((Hp.srt_perm (lt := ltL) way).trans h.pm).filter _)).trans ?_
  unfold later
  rw [List.filter_filter]
  refine List.Perm.of_eq (List.filter_congr fun x _ => ?_)
  by_cases h1 : x.f0 ≤ now
  · have h2 : x.f0 ≤ now + 1 := by omega
    simp [h1, h2]
  · simp [h1]
theorem MAt.dueP (h : MAt fs want way now sent i) : (dueD way (now + 1)).Perm (want.filter (fun x => decide (x.f0 = now + 1))) := by
  refine ((((Hp.srt_perm (lt := ltL) way).trans h.pm).filter _)).trans ?_
  unfold later
  rw [List.filter_filter]
  refine List.Perm.of_eq (List.filter_congr fun x _ => ?_)
  by_cases h1 : x.f0 = now + 1
  · have h2 : x.f0 ≤ now + 1 := by omega
    have h3 : ¬ x.f0 ≤ now := by omega
    simp [h1]
    omega
  · by_cases h2 : x.f0 ≤ now
    · have h3 : x.f0 ≤ now + 1 := by omega
      simp [h1, h2, h3]
    · have h3 : ¬ x.f0 ≤ now + 1 := by omega
      simp [h1, h2, h3]
/-- As often as it is wanted. -/
theorem MAt.alike (h : MAt fs want way now sent i) {y : S25} (hy : y ∈ dueD way (now + 1)) : (want.filter (fun x => eqL x y)).length = ((dueD way (now + 1)).filter (fun x => eqL x y)).length := by
  rw [(h.dueP.filter _).length_eq, List.filter_filter]
  congr 1
  have hy2 := List.mem_filter.mp (h.dueP.mem_iff.mp hy)
  have hy0 := of_decide_eq_true hy2.2
  refine List.filter_congr fun x _ => ?_
  cases he : eqL x y with
  | false => simp
  | true =>
    have h1 : x.f0 = y.f0 := by
      unfold eqL at he
      simp only [Bool.and_eq_true, decide_eq_true_eq] at he
      exact he.1.1.1
    simp [h1, hy0]
theorem MAt.dueAt (h : MAt fs want way now sent i) {y : S25} (hy : y ∈ dueD way (now + 1)) : y.f0 = now + 1 := of_decide_eq_true (List.mem_filter.mp (h.dueP.mem_iff.mp hy)).2
end
def cntL (p : S25 → Bool) (l : List S25) (k : Nat) : Nat := ((l.take k).filter p).length
theorem cnt_step (p : S25 → Bool) (l : List S25) (k : Nat) (h : k < l.length) : cntL p l (k + 1) = cntL p l k + (if p (l.getD k z25) = true then 1 else 0) := by
  unfold cntL
  rw [List.take_succ_eq_append_getElem h, List.filter_append, List.length_append, Hp.getD_lt _ _ _ h]
  congr 1
  by_cases hp : p l[k] = true
  · simp [hp]
  · simp [hp]
theorem cnt_yes {p : S25 → Bool} {l : List S25} {k : Nat} (h : k < l.length) (hp : p (l.getD k z25) = true) : cntL p l (k + 1) = cntL p l k + 1 := by rw [cnt_step p l k h, if_pos hp]
theorem cnt_no {p : S25 → Bool} {l : List S25} {k : Nat} (h : k < l.length) (hp : p (l.getD k z25) = false) : cntL p l (k + 1) = cntL p l k := by rw [cnt_step p l k h, if_neg (by rw [hp]; decide)]; rfl
theorem cnt_all (p : S25 → Bool) (l : List S25) : cntL p l l.length = (l.filter p).length := by unfold cntL; rw [List.take_length]
theorem cnt_le (p : S25 → Bool) (l : List S25) (k : Nat) : cntL p l k ≤ k := by
  unfold cntL
  have h1 : ((l.take k).filter p).length ≤ (l.take k).length := List.length_filter_le _ _
  rw [List.length_take] at h1
  omega
def nf18_T : Bool × List (List Nat × List Nat) := (true, [([], []), ([], []), ([1], [1]), ([2], [2]), ([], []), ([4], [4]), ([3, 5], [3, 5]), ([], []), ([7], [7]), ([], []), ([], []), ([], []), ([10, 11], [10, 11]), ([12], [12]), ([13], [13]), ([14], [14]), ([6, 8, 9, 15], [6, 8, 9, 15]), ([16], [16]), ([0, 17], [0, 17]), ([18, 18, 0, 1, 2, 3, 4, 5, 6, 7, 8, 9, 10, 11, 12, 13, 14, 15, 16, 17, 18], [0, 18])])
def nf18_B : List Nat := [0, 0, 2, 6, 0, 16, 62, 0, 128, 0, 0, 0, 3072, 7168, 15360, 31744, 65534, 131070, 262143, 524287]
theorem nf18_tab : rtab .any (opsOf Try.f6 18) = nf18_T := by kernel_rfl
theorem nf18_bits : waitsOk nf18_T.2 nf18_B = true := by kernel_rfl
def nf20_T : Bool × List (List Nat × List Nat) := (true, [([], []), ([], []), ([1], [1]), ([2], [2]), ([], []), ([4], [4]), ([3, 5], [3, 5]), ([], []), ([7], [7]), ([], []), ([], []), ([], []), ([10, 11], [10, 11]), ([12], [12]), ([13], [13]), ([14], [14]), ([6, 8, 9, 15], [6, 8, 9, 15]), ([16], [16]), ([0, 17], [0, 17]), ([18, 18, 0, 1, 2, 3, 4, 5, 6, 7, 8, 9, 10, 11, 12, 13, 14, 15, 16, 17, 18], [0, 18])])
def nf20_B : List Nat := [0, 0, 2, 6, 0, 16, 62, 0, 128, 0, 0, 0, 3072, 7168, 15360, 31744, 65534, 131070, 262143, 524287]
theorem nf20_tab : rtab .any (opsOf Try.f6 20) = nf20_T := by kernel_rfl
theorem nf20_bits : waitsOk nf20_T.2 nf20_B = true := by kernel_rfl
def nf21_T : Bool × List (List Nat × List Nat) := (true, [([], []), ([], []), ([], []), ([], []), ([2, 3], [2, 3]), ([4], [4]), ([5], [5]), ([6], [6]), ([0, 1, 7], [0, 1, 7]), ([8], [8]), ([9], [9]), ([9], [9]), ([], []), ([12, 10, 8, 0, 1, 2, 3, 4, 5, 6, 7, 8, 9, 10, 12], [10, 12]), ([11, 13, 0, 1, 2, 3, 4, 5, 6, 7, 8, 9, 10, 11, 12, 13], [11])])
def nf21_B : List Nat := [0, 0, 0, 0, 12, 28, 60, 124, 255, 511, 1023, 1023, 0, 6143, 16383]
theorem nf21_tab : rtab .any (opsOf Try.f6 21) = nf21_T := by kernel_rfl
theorem nf21_bits : waitsOk nf21_T.2 nf21_B = true := by kernel_rfl
def nf32_T : Bool × List (List Nat × List Nat) := (true, [([], []), ([], []), ([0, 1], [0, 1]), ([2], [2]), ([3], [3]), ([], []), ([5], [5]), ([4, 6], [4, 6])])
def nf32_B : List Nat := [0, 0, 3, 7, 15, 0, 32, 127]
theorem nf32_tab : rtab .any (opsOf Try.f6 32) = nf32_T := by kernel_rfl
theorem nf32_bits : waitsOk nf32_T.2 nf32_B = true := by kernel_rfl
def nf43_T : Bool × List (List Nat × List Nat) := (true, [([], []), ([], []), ([0, 1], [0, 1]), ([2], [2]), ([], []), ([], []), ([4, 5], [4, 5]), ([6], [6]), ([3, 7], [3, 7])])
def nf43_B : List Nat := [0, 0, 3, 7, 0, 0, 48, 112, 255]
theorem nf43_tab : rtab .any (opsOf Try.f6 43) = nf43_T := by kernel_rfl
theorem nf43_bits : waitsOk nf43_T.2 nf43_B = true := by kernel_rfl
def nf49_T : Bool × List (List Nat × List Nat) := (true, [([], []), ([], []), ([0, 1], [0, 1]), ([2], [2]), ([], []), ([], []), ([4, 5], [4, 5]), ([6], [6]), ([3, 7], [3, 7])])
def nf49_B : List Nat := [0, 0, 3, 7, 0, 0, 48, 112, 255]
theorem nf49_tab : rtab .any (opsOf Try.f6 49) = nf49_T := by kernel_rfl
theorem nf49_bits : waitsOk nf49_T.2 nf49_B = true := by kernel_rfl
def nf51_T : Bool × List (List Nat × List Nat) := (true, [([], []), ([], []), ([0, 1], [0, 1]), ([2], [2]), ([3], [3]), ([], []), ([5], [5]), ([4, 6], [4, 6]), ([7], [7]), ([8], [8]), ([8], [8]), ([9, 10, 8], [8, 9, 10]), ([8, 11], [8, 11])])
def nf51_B : List Nat := [0, 0, 3, 7, 15, 0, 32, 127, 255, 511, 511, 2047, 4095]
theorem nf51_tab : rtab .any (opsOf Try.f6 51) = nf51_T := by kernel_rfl
theorem nf51_bits : waitsOk nf51_T.2 nf51_B = true := by kernel_rfl
set_option maxHeartbeats 16000000 in
set_option maxRecDepth 100000 in
theorem fates.calls (w : World) (A0 : Option Addr) (c0 : Nat) (fs : List S51) (Al : Option Addr) (cl : Nat) (l : List S49) (hrf : Kd.C k51 w A0 fs.length fs) (hcf : fs.length ≤ c0) (hrl : Kd.C k49 w Al l.length l) (hcl : l.length ≤ cl) (gl : ∀ x ∈ l, (0 ≤ x.f0 ∧ x.f0 ≤ 255) ∧ (0 ≤ x.f1 ∧ x.f1 ≤ 255)) :
    Calls Try.prog 6 #[.slice A0 fs.length c0, .slice Al l.length cl] w fun e w' => e = .returned (.bool true) ∧ Below w.heap.size w w' := by
  have hu44 := Try.underlying44
  have hu25 := Try.underlying25
  have hu51 := Try.underlying51
  have HG := Aside0.mk gl
  have HRF := Aside0.mk hrf
  have HRL := Aside0.mk hrl
  clear gl hrf hrl
  go_enter Try.func6, Try.ntmps6
  go_wp2_with ((with_reducible refine gate_dst (N := 23) rfl ?_); refine Aside0.out (p := _) ?_)
  refine Aside0.mk ?_
  refine goesL_ (some 23) rfl rfl Try.func21 (by kernel_rfl) rfl #[] rfl (by (try simp only [List.map_toArray, List.map_cons, List.map_nil, List.append_toArray, List.cons_append, List.nil_append]); first | done | rfl) ?_
  refine (awakeC21 _).mono ?_
  rintro e w1 ⟨rfl, hb⟩
  refine ⟨_, rfl, ?_⟩
  have HB := Aside0.mk hb
  clear hb
  by_cases h60 : 60 < fs.length
  · have b1 : decide ((fs.length : Int) > 60) = true := decide_eq_true (by omega)
    have b2 : decide (60 < (fs.length : Int)) = true := decide_eq_true (by omega)
    have b3 : decide (60 < fs.length) = true := decide_eq_true h60
    go_wp2
    go_ret
    exact ⟨rfl, HB.out⟩
  have b1 : decide ((fs.length : Int) > 60) = false := decide_eq_false (by omega)
  have b2 : decide (60 < (fs.length : Int)) = false := decide_eq_false (by omega)
  have b3 : decide (60 < fs.length) = false := decide_eq_false h60
  by_cases h80 : 80 < l.length
  · have b4 : decide ((l.length : Int) > 80) = true := decide_eq_true (by omega)
    have b5 : decide (80 < (l.length : Int)) = true := decide_eq_true (by omega)
    have b6 : decide (80 < l.length) = true := decide_eq_true h80
    go_wp2
    go_ret
    exact ⟨rfl, HB.out⟩
  have b4 : decide ((l.length : Int) > 80) = false := decide_eq_false (by omega)
  have b5 : decide (80 < (l.length : Int)) = false := decide_eq_false (by omega)
  have b6 : decide (80 < l.length) = false := decide_eq_false h80
  have HS := Aside0.mk (show fs.length ≤ 60 ∧ l.length ≤ 80 from ⟨by omega, by omega⟩)
  clear h60 h80
  go_wp2_with ((with_reducible refine gate_dst (N := 35) rfl ?_); refine Aside0.out (p := _) ?_)
  refine Aside0.mk ?_
  refine goesL_ (some 35) rfl rfl Try.func22 (by kernel_rfl) rfl #[.slice A0 fs.length c0] rfl (by (try simp only [List.map_toArray, List.map_cons, List.map_nil, List.append_toArray, List.cons_append, List.nil_append]); first | done | rfl) ?_
  clear b1 b2 b3 b4 b5 b6
  cases hr : rightB 0 0 [] fs with
  | false =>
    refine (newErr (Kd.C_below HRF.out HB.out) hcf (by have := HS.out.1; omega) hr).mono ?_
    rintro e w2 ⟨rfl, hb⟩
    refine ⟨_, rfl, ?_⟩
    have n_ := Aside0.mk (HB.out.trans (hb.mono HB.out.size))
    clear HB
    have HB := n_
    clear n_
    clear hb
    go_wp2_with ((with_reducible refine gate_dst (N := 5) rfl ?_); refine Aside0.out (p := _) ?_)
    refine Aside0.mk ?_
    refine box_event (by rfl) (N := 5) rfl (cs := #[.int .i64 0, .int .i64 0, .slice none 0 0, .slice none 0 0]) (t := 44) ?hr ?_
    case hr => first | (go_simp; done) | (go_simp; rfl)
    intro g5 hg5 w3 kg5 bg5
    have G5 := Aside0.mk (And.intro hg5 (And.intro kg5 bg5))
    clear hg5 kg5 bg5
    have HS5 := Aside0.mk (show w.heap.size ≤ g5 from Nat.le_trans HB.out.size (Nat.le_of_eq G5.out.1.symm))
    go_wp2_with ((with_reducible refine gate_store (t := 44) (p := 5) rfl ?_); refine Aside0.out (p := _) ?_)
    refine Aside0.mk ?_
    refine store_seg [.int .i64 0, .int .i64 0, .slice none 0 0, .slice none 0 0] #[.int .i64 0, .int .i64 0, .slice none 0 0, .slice none 0 0] G5.out.2.1 rfl rfl rfl rfl rfl rfl (by kernel_rfl) (by simp) (by
      intro q hq
      simp only [List.mem_cons, List.not_mem_nil, or_false] at hq
      first | (rcases hq with rfl | rfl | rfl | rfl <;> rfl) | (subst hq; rfl)) rfl ?_
    intro w4 hk hne hB
    have HBB := Aside0.mk (hB _ _ HS5.out (HB.out.trans (G5.out.2.2.mono HB.out.size)))
    clear hk hne hB G5
    go_wp2
    go_ret
    exact ⟨rfl, HBB.out⟩
  | true =>
  refine (newOk (Kd.C_below HRF.out HB.out) hcf (by have := HS.out.1; omega) hr).mono ?_
  rintro e w3 ⟨Af, cf, rfl, hv, hb⟩
  refine ⟨_, rfl, ?_⟩
  have HV := Aside0.mk (Kd.V_bound hv)
  have HS2 := Aside0.mk HB.out.size
  have n_ := Aside0.mk (HB.out.trans (hb.mono HB.out.size))
  clear HB
  have HB := n_
  clear n_
  clear hv hb
  go_wp2_with ((with_reducible refine gate_dst (N := 5) rfl ?_); refine Aside0.out (p := _) ?_)
  refine Aside0.mk ?_
  refine box_event (by rfl) (N := 5) rfl (cs := #[.int .i64 0, .int .i64 0, .slice none 0 0, .slice none 0 0]) (t := 44) ?hr ?_
  case hr => first | (go_simp; done) | (go_simp; rfl)
  intro g5 hg5 w4 kg5 bg5
  have G5 := Aside0.mk (And.intro hg5 (And.intro kg5 bg5))
  clear hg5 kg5 bg5
  have HS5 := Aside0.mk (show w3.heap.size ≤ g5 ∧ w.heap.size ≤ g5 from ⟨Nat.le_of_eq G5.out.1.symm, Nat.le_trans HB.out.size (Nat.le_of_eq G5.out.1.symm)⟩)
  have K5 := Aside0.mk G5.out.2.1
  have n_ := Aside0.mk (Kd.V_below HV.out G5.out.2.2)
  clear HV
  have HV := n_
  clear n_
  have n_ := Aside0.mk (HB.out.trans (G5.out.2.2.mono HB.out.size))
  clear HB
  have HB := n_
  clear n_
  clear G5
  go_wp2_with ((with_reducible refine gate_store (t := 44) (p := 5) rfl ?_); refine Aside0.out (p := _) ?_)
  refine Aside0.mk ?_
  refine store_seg [.int .i64 0, .int .i64 0, .slice none 0 0, .slice Af fs.length cf] #[.int .i64 0, .int .i64 0, .slice none 0 0, .slice Af fs.length cf] K5.out rfl rfl rfl rfl rfl rfl (by kernel_rfl) (by simp) (by
    intro q hq
    simp only [List.mem_cons, List.not_mem_nil, or_false] at hq
    first | (rcases hq with rfl | rfl | rfl | rfl <;> rfl) | (subst hq; rfl)) rfl ?_
  intro w5 hk hne hB
  have HQ := Aside0.mk (show GAt w w5 g5 fs [] [] 0 0 (.slice none 0 0) none 0 Af cf from ⟨hB _ _ HS5.out.2 HB.out, hk, Kd.N_nil _ _ _ _ _, Kd.V_nil _ _ _ _ _, Kd.V_step (Kd.V_mono (Kd.V_lower HV.out HS2.out) (ok' := (fun k => (w.heap.size ≤ k ∧ k ≠ g5) ∧ some k ≠ ((Value.slice none 0 0) : Value).ownBlock)) (fun k hk => by
    have h1 : _ ≤ k := hk.1
    have h2 := hk.2
    have h3 := HS5.out.1
    have h4 := HS2.out
    exact ⟨⟨by omega, by omega⟩, fun e => by cases e⟩)) (fun k hk _ => hne k hk.1.2), HS5.out.2, fun e => by cases e⟩)
  have HM := Aside0.mk (show MAt fs [] [] 0 0 0 from ⟨List.Perm.refl _, fun x hx => by simp at hx, Nat.le_refl _, by decide, by decide, rfl, by decide, (right_late hr).2, HS.out.1⟩)
  clear hk hne hB K5 HV HB HS2 HS5 hr
  go_wp2
  go_loopg [7, 8] (l.length + 50) (fun kq v7 v8 w' => ∃ (i : Nat) (want way : List S25) (now sent : Int) (B : Option Addr) (d : Nat), v8 = .int .i64 i ∧ Aside0 (kq + i = l.length + 50 ∧ MAt fs want way now sent i ∧ GAt w w' g5 fs want way now sent v7 B d Af cf))
  case atStart => exact ⟨0, [], [], 0, 0, none, 0, rfl, ⟨by omega, HM.out, HQ.out⟩⟩
  case round =>
    clear HQ HM
    obtain ⟨i, want, way, now, sent, B, d, rfl, HR1⟩ := hrel
    have HQ := Aside0.mk HR1.out.2.2
    have HM := Aside0.mk HR1.out.2.1
    have HK := Aside0.mk HR1.out.1
    clear HR1
    have hw45 : wrap64 ((l.length : Int) + 50) = (l.length : Int) + 50 := w64_in (by omega) (by have := HS.out.2; omega)
    by_cases hlt : i < l.length + 50
    · have b1 : decide ((i : Int) < (l.length : Int) + 50) = true := decide_eq_true (by omega)
      cases gk with
      | zero => exact absurd HK.out (by omega)
      | succ k1 =>
      have hi130 : i < 130 := by have := HS.out.2; omega
      have HI := Aside0.mk hi130
      clear hi130
      obtain ⟨p, hp⟩ : ∃ p, p = l.getD i z49 := ⟨_, rfl⟩
      obtain ⟨tt, htt⟩ : ∃ t, t = p.f0 % 3 := ⟨_, rfl⟩
      have HPP := Aside0.mk (And.intro hp htt)
      obtain ⟨bb, hbb⟩ : ∃ b : Bool, b = (decide (i < l.length) && decide (tt < 2)) := ⟨_, rfl⟩
      have HBB := Aside0.mk hbb
      clear hp htt hbb
      go_upto_region 12 with fail
      clear b1
      go_cut [61] (fun v61 wc => Aside0 (v61 = .bool bb ∧ GAt w wc g5 fs want way now sent u7 B d Af cf))
      case first =>
        by_cases hil : i < l.length
        · have b2 : decide ((i : Int) < (l.length : Int)) = true := decide_eq_true (by omega)
          have b3 : decide (i < l.length) = true := decide_eq_true hil
          obtain ⟨ad, e, hx0, hx1⟩ := at_T49 HRL.out (i : Int) (by omega) (by omega)
          simp only [Int.toNat_natCast] at hx0 hx1
          subst e
          have hxe : rd_T49 l (i : Int) = l.getD i z49 := by unfold rd_T49; rw [Int.toNat_natCast]
          rw [hxe, ← HPP.out.1] at hx0 hx1
          clear hxe
          have HP := Aside0.mk (show (0 ≤ p.f0 ∧ p.f0 ≤ 255) ∧ (0 ≤ p.f1 ∧ p.f1 ≤ 255) from by rw [HPP.out.1, Hp.getD_lt _ _ _ hil]; exact HG.out _ (List.getElem_mem _))
          have HX := Aside0.mk (And.intro hx0 hx1)
          clear hx0 hx1
          have hmod : Int.tmod p.f0 3 = tt := (Int.tmod_eq_emod_of_nonneg HP.out.1.1).trans HPP.out.2.symm
          have HTT := Aside0.mk (show 0 ≤ tt ∧ tt ≤ 2 from by have := HPP.out.2; omega)
          have hwt : wrap64 tt = tt := w64_in (by have := HTT.out; omega) (by have := HTT.out; omega)
          have hx0 := pw_cell_below HQ.out.ba HX.out.1
          have HIL := Aside0.mk hil
          by_cases h2 : tt < 2
          · have b4 : decide (tt < 2) = true := decide_eq_true h2
            have HR8 := Aside0.mk (show Value.bool true = .bool bb from by rw [HBB.out, b3, b4]; rfl)
            go_wp2
            go_meet
            case rel => exact ⟨HR8.out, HQ.out⟩
          · have b4 : decide (tt < 2) = false := decide_eq_false h2
            have HR8 := Aside0.mk (show Value.bool false = .bool bb from by rw [HBB.out, b3, b4]; rfl)
            go_wp2
            go_meet
            case rel => exact ⟨HR8.out, HQ.out⟩
        · have b2 : decide ((i : Int) < (l.length : Int)) = false := decide_eq_false (by omega)
          have b3 : decide (i < l.length) = false := decide_eq_false hil
          have HR8 := Aside0.mk (show Value.bool false = .bool bb from by rw [HBB.out, b3]; rfl)
          go_wp2
          go_meet
          case rel => exact ⟨HR8.out, HQ.out⟩
      case rest =>
        have n_ := Aside0.mk hcut.out.2
        have e := hcut.out.1
        subst e
        clear HQ hcut
        have HQ := n_
        clear n_
        cases bb with
        | true =>
          have hbt := HBB.out.symm
          rw [Bool.and_eq_true] at hbt
          have hil : i < l.length := of_decide_eq_true hbt.1
          have h2 : tt < 2 := of_decide_eq_true hbt.2
          clear hbt HBB
          obtain ⟨ad, e, hx0, hx1⟩ := at_T49 HRL.out (i : Int) (by omega) (by omega)
          simp only [Int.toNat_natCast] at hx0 hx1
          subst e
          have hxe : rd_T49 l (i : Int) = l.getD i z49 := by unfold rd_T49; rw [Int.toNat_natCast]
          rw [hxe, ← HPP.out.1] at hx0 hx1
          clear hxe
          have HP := Aside0.mk (show (0 ≤ p.f0 ∧ p.f0 ≤ 255) ∧ (0 ≤ p.f1 ∧ p.f1 ≤ 255) from by rw [HPP.out.1, Hp.getD_lt _ _ _ hil]; exact HG.out _ (List.getElem_mem _))
          have HX := Aside0.mk (And.intro hx0 hx1)
          clear hx0 hx1
          have hmod : Int.tmod p.f0 3 = tt := (Int.tmod_eq_emod_of_nonneg HP.out.1.1).trans HPP.out.2.symm
          have HTT := Aside0.mk (show 0 ≤ tt ∧ tt ≤ 2 from by have := HPP.out.2; omega)
          have hwt : wrap64 tt = tt := w64_in (by have := HTT.out; omega) (by have := HTT.out; omega)
          have hx0 := pw_cell_below HQ.out.ba HX.out.1
          have HIL := Aside0.mk hil
          have HT2 := Aside0.mk (show tt = 0 ∨ tt = 1 from by have := HTT.out; omega)
          have b2 : decide ((i : Int) < (l.length : Int)) = true := decide_eq_true (by omega)
          have b3 : decide (i < l.length) = true := decide_eq_true hil
          clear h2
          generalize wc = wq at HQ hx0 ⊢
          as_aux_lemma =>
            go_wp2_with ((with_reducible refine gate_dst (N := 10) rfl ?_); refine Aside0.out (p := _) ?_)
            refine Aside0.mk ?_
            refine box_event (by rfl) (N := 10) rfl (cs := #[.bool false, .bool false, .int .i64 0, .int .i64 0]) (t := 51) ?hr ?_
            case hr => first | (go_simp; done) | (go_simp; rfl)
            intro g10 hg10 v1 kg10 bg10
            have G10 := Aside0.mk (And.intro hg10 (And.intro kg10 bg10))
            clear hg10 kg10 bg10
            go_wp2_with ((with_reducible refine gate_store (t := 51) (p := 10) rfl ?_); refine Aside0.out (p := _) ?_)
            refine Aside0.mk ?_
            refine store_seg [.bool false, .bool false, .int .i64 0, .int .i64 0] #[.bool false, .bool false, .int .i64 0, .int .i64 0] G10.out.2.1 rfl rfl rfl rfl rfl rfl (by kernel_rfl) (by simp) (by
              intro q hq
              simp only [List.mem_cons, List.not_mem_nil, or_false] at hq
              first | (rcases hq with rfl | rfl | rfl | rfl <;> rfl) | (subst hq; rfl)) rfl ?_
            intro v2 hk hne hB
            clear hx0 b2 b3
            have HB2 := Aside0.mk (hB _ _ (Nat.le_of_eq G10.out.1.symm) G10.out.2.2)
            have HS10 := Aside0.mk (show g5 < g10 ∧ wq.heap.size ≤ g10 ∧ (∀ k, (u7 : Value).ownBlock = some k → k ≠ g10) from by
              have h1 := G10.out.1
              refine ⟨by have := blk_lt HQ.out.k5; omega, by omega, fun k hk => by have := Kd.N_lt HQ.out.vi k hk; omega⟩)
            have K10 := Aside0.mk hk
            clear hk hne hB G10
            obtain ⟨f, hf⟩ : ∃ f, f = fateAt fs sent := ⟨_, rfl⟩
            have HF := Aside0.mk hf
            clear hf
            have HFB := Aside0.mk (show 0 ≤ f.f2 ∧ f.f2 ≤ 1000 ∧ 0 ≤ f.f3 ∧ f.f3 ≤ 1000 from HF.out ▸ HM.out.fate)
            have n_ := Aside0.mk (HQ.out.step HB2.out)
            have HQ2 := n_
            clear n_
            have q0 : v2.cell? ⟨g5, 0, none⟩ = some (.int .i64 now) := blk_cell HQ2.out.k5 0
            have q1 : v2.cell? ⟨g5, 1, none⟩ = some (.int .i64 sent) := blk_cell HQ2.out.k5 1
            have q2 : v2.cell? ⟨g5, 2, none⟩ = some (.slice B way.length d) := blk_cell HQ2.out.k5 2
            have q3 : v2.cell? ⟨g5, 3, none⟩ = some (.slice Af fs.length cf) := blk_cell HQ2.out.k5 3
            go_upto_if 74 with fail
            clear q0 q1 q2 q3
            go_cut [] (fun wc => Aside0 (Below wq.heap.size wq wc ∧ wc.heap[g10]? = some (.cells #[.bool f.f0, .bool f.f1, .int .i64 f.f2, .int .i64 f.f3] 51 (0, 0))))
            case first =>
              by_cases hs : sent < (fs.length : Int)
              · have b1 : decide (sent < (fs.length : Int)) = true := decide_eq_true hs
                have hf : f = rd_T51 fs sent := HF.out.trans (if_pos hs)
                obtain ⟨ad0, e, hy0, hy1, hy2, hy3⟩ := at_T51 (Kd.C_below HRF.out HQ2.out.ba) sent HM.out.s0 hs
                rw [← hf] at hy0 hy1 hy2 hy3
                clear hf
                have b0 : (0 : Int) ≤ sent := HM.out.s0
                have b2 : decide (0 ≤ sent) = true := decide_eq_true b0
                subst e
                have q0 : v2.cell? ⟨g5, 0, none⟩ = some (.int .i64 now) := blk_cell HQ2.out.k5 0
                have q1 : v2.cell? ⟨g5, 1, none⟩ = some (.int .i64 sent) := blk_cell HQ2.out.k5 1
                have q2 : v2.cell? ⟨g5, 2, none⟩ = some (.slice B way.length d) := blk_cell HQ2.out.k5 2
                have q3 : v2.cell? ⟨g5, 3, none⟩ = some (.slice Af fs.length cf) := blk_cell HQ2.out.k5 3
                go_wp2_with ((with_reducible refine gate_store (t := 51) (p := 10) rfl ?_); refine Aside0.out (p := _) ?_)
                refine Aside0.mk ?_
                refine store_seg [.bool f.f0, .bool f.f1, .int .i64 f.f2, .int .i64 f.f3] #[.bool f.f0, .bool f.f1, .int .i64 f.f2, .int .i64 f.f3] K10.out rfl rfl rfl rfl rfl rfl (by kernel_rfl) (by simp) (by
                  intro q hq
                  simp only [List.mem_cons, List.not_mem_nil, or_false] at hq
                  first | (rcases hq with rfl | rfl | rfl | rfl <;> rfl) | (subst hq; rfl)) rfl ?_
                intro v3 hk hne hB
                clear q0 q1 q2 q3
                have HC := Aside0.mk (show Below wq.heap.size wq v3 ∧ v3.heap[g10]? = some (.cells #[.bool f.f0, .bool f.f1, .int .i64 f.f2, .int .i64 f.f3] 51 (0, 0)) from ⟨hB _ _ HS10.out.2.1 HB2.out, hk⟩)
                clear hk hne hB hy0 hy1 hy2 hy3
                go_wp2
                go_meet
                case rel => exact HC
              · have b1 : decide (sent < (fs.length : Int)) = false := decide_eq_false hs
                have hf : f = z51 := HF.out.trans (if_neg hs)
                go_wp2
                go_meet
                case rel => exact ⟨HB2.out, by rw [hf]; exact K10.out⟩
            case rest =>
              clear HB2 K10 HQ2
              have HB2 := Aside0.mk hcut.out.1
              have K10 := Aside0.mk hcut.out.2
              clear hcut
              have n_ := Aside0.mk (HQ.out.step HB2.out)
              clear HQ
              have HQ := n_
              clear n_
              have hw1 : wrap64 (now + 1) = now + 1 := w64_in (by have := HM.out.n0; omega) (by have := HM.out.sm; have := HM.out.s0; have := HI.out; omega)
              have hw2 : wrap64 (now + 1 + f.f2) = now + 1 + f.f2 := w64_in (by have := HM.out.n0; have := HFB.out; omega) (by have := HM.out.sm; have := HM.out.s0; have := HI.out; have := HFB.out; omega)
              have hw3 : wrap64 (now + 1 + f.f3) = now + 1 + f.f3 := w64_in (by have := HM.out.n0; have := HFB.out; omega) (by have := HM.out.sm; have := HM.out.s0; have := HI.out; have := HFB.out; omega)
              have hv1 : IntKind.i64.wrap (now + 1) = now + 1 := (i64_w _).trans hw1
              have hv2 : IntKind.i64.wrap (now + 1 + f.f2) = now + 1 + f.f2 := (i64_w _).trans hw2
              have hv3 : IntKind.i64.wrap (now + 1 + f.f3) = now + 1 + f.f3 := (i64_w _).trans hw3
              have HOW := Aside0.mk HS10.out.2.2
              have HWL := Aside0.mk (show want.length ≤ 260 from by have := HM.out.ln; have := HI.out; omega)
              clear HS10 HB2
              have q0 : wc.cell? ⟨g10, 0, none⟩ = some (.bool f.f0) := blk_cell K10.out 0
              have q1 : wc.cell? ⟨g10, 1, none⟩ = some (.bool f.f1) := blk_cell K10.out 1
              have q2 : wc.cell? ⟨g10, 2, none⟩ = some (.int .i64 f.f2) := blk_cell K10.out 2
              have q3 : wc.cell? ⟨g10, 3, none⟩ = some (.int .i64 f.f3) := blk_cell K10.out 3
              go_upto_if 82 with fail
              clear q0 q1 q2 q3
              go_cut [7] (fun v7 wc => Aside0 (GAt w wc g5 fs (want ++ one1 now sent tt p.f1 f) way now sent v7 B d Af cf ∧ wc.heap[g10]? = some (.cells #[.bool f.f0, .bool f.f1, .int .i64 f.f2, .int .i64 f.f3] 51 (0, 0)) ∧ (∀ k, (v7 : Value).ownBlock = some k → k ≠ g10)))
              case first =>
                cases h0 : f.f0 with
                | true =>
                  go_wp2
                  go_meet
                  case rel => exact ⟨by rw [show one1 now sent tt p.f1 f = [] from if_pos h0, List.append_nil]; exact HQ.out, K10.out, HOW.out⟩
                | false =>
                  as_aux_lemma =>
                    go_wp2
                    refine start_ (n := 20) (S := fun w' => w'.heap[g5]? = some (.cells #[.int .i64 now, .int .i64 sent, .slice B way.length d, .slice Af fs.length cf] 44 (0, 0)) ∧ w'.heap[g10]? = some (.cells #[.bool f.f0, .bool f.f1, .int .i64 f.f2, .int .i64 f.f3] 51 (0, 0)) ∧ w'.cell? ⟨(ad.add (i * 2)).block, (ad.add (i * 2)).off + 1, none⟩ = some (.int .u8 p.f1)) (ds := []) (Nw.fl 20 0) (by kernel_rfl) rfl (by kernel_rfl) ⟨HQ.out.k5, K10.out, pw_cell_below HQ.out.ba HX.out.2⟩ (fun hHeld => ?_)
                    refine with_tabW nf18_tab nf18_bits (fun HT_ HW_ => ?_)
                    have n_ := Aside0.mk (HQ.out.step (below_drew (Below.refl _ _)))
                    have n2_ := Aside0.mk (((below_drew (Below.refl _ _)).block _ (blk_lt K10.out)).trans K10.out)
                    clear HQ K10
                    have HQ := n_
                    have K10 := n2_
                    clear n_ n2_
                    generalize (wc).drew = wd at HQ K10 hHeld ⊢
                    refine pure_ (i := 0) (N := some 83) (v := ?_) (a' := ?_) (Nw.fl 20 1) rfl rfl (any_of HT_.out (by kernel_rfl)) (fun _ _ _ h => by first | exact h | cases h.1) (Or.inl ⟨by rfl, ?_⟩) ?_ ?_
                    rotate_left
                    · intro w'
                      go_simp
                      with_reducible rfl
                    rotate_left
                    · simp only [Act.put, List.setIfInBounds_toArray, List.set_cons_zero, List.set_cons_succ]
                      rfl
                    refine pure_ (i := 1) (N := some 84) (v := ?_) (a' := ?_) (Nw.fl 20 3) rfl rfl (any_of HT_.out (by kernel_rfl)) (fun _ _ _ h => by first | exact h | cases h.1) (Or.inl ⟨by rfl, ?_⟩) ?_ ?_
                    rotate_left
                    · intro w'
                      go_simp
                      with_reducible rfl
                    rotate_left
                    · simp only [Act.put, List.setIfInBounds_toArray, List.set_cons_zero, List.set_cons_succ]
                      rfl
                    refine take_ (i := 2) (N := some 85) (v := ?_) (a' := ?_) (Nw.fl 20 7) rfl rfl (take_ofW HT_.out HW_.out (by kernel_rfl)) (fun _ _ _ h => by first | exact h | cases h.1) (Or.inl ⟨by rfl, ?_⟩) hHeld ?_ ?_
                    rotate_left
                    · rintro w' ⟨s0, s1, s2⟩
                      have q0 : w'.cell? ⟨g5, 0, none⟩ = some (.int .i64 now) := blk_cell s0 0
                      have q1 : w'.cell? ⟨g5, 1, none⟩ = some (.int .i64 sent) := blk_cell s0 1
                      have q2 : w'.cell? ⟨g5, 2, none⟩ = some (.slice B way.length d) := blk_cell s0 2
                      have q3 : w'.cell? ⟨g5, 3, none⟩ = some (.slice Af fs.length cf) := blk_cell s0 3
                      go_simp
                      with_reducible rfl
                    rotate_left
                    · simp only [Act.put, List.setIfInBounds_toArray, List.set_cons_zero, List.set_cons_succ]
                      rfl
                    refine pure_ (i := 3) (N := some 86) (v := ?_) (a' := ?_) (Nw.fl 20 15) rfl rfl (any_of HT_.out (by kernel_rfl)) (fun _ _ _ h => by first | exact h | cases h.1) (Or.inl ⟨by rfl, ?_⟩) ?_ ?_
                    rotate_left
                    · intro w'
                      go_simp
                      with_reducible rfl
                    rotate_left
                    · simp only [Act.put, List.setIfInBounds_toArray, List.set_cons_zero, List.set_cons_succ]
                      rfl
                    refine pure_ (i := 4) (N := some 87) (v := ?_) (a' := ?_) (Nw.fl 20 31) rfl rfl (any_of HT_.out (by kernel_rfl)) (fun _ _ _ h => by first | exact h | cases h.1) (Or.inl ⟨by rfl, ?_⟩) ?_ ?_
                    rotate_left
                    · intro w'
                      go_simp
                      with_reducible rfl
                    rotate_left
                    · simp only [Act.put, List.setIfInBounds_toArray, List.set_cons_zero, List.set_cons_succ]
                      rfl
                    refine take_ (i := 5) (N := some 88) (v := ?_) (a' := ?_) (Nw.fl 20 63) rfl rfl (take_ofW HT_.out HW_.out (by kernel_rfl)) (fun _ _ _ h => by first | exact h | cases h.1) (Or.inl ⟨by rfl, ?_⟩) hHeld ?_ ?_
                    rotate_left
                    · rintro w' ⟨s0, s1, s2⟩
                      have q0 : w'.cell? ⟨g10, 0, none⟩ = some (.bool f.f0) := blk_cell s1 0
                      have q1 : w'.cell? ⟨g10, 1, none⟩ = some (.bool f.f1) := blk_cell s1 1
                      have q2 : w'.cell? ⟨g10, 2, none⟩ = some (.int .i64 f.f2) := blk_cell s1 2
                      have q3 : w'.cell? ⟨g10, 3, none⟩ = some (.int .i64 f.f3) := blk_cell s1 3
                      go_simp
                      with_reducible rfl
                    rotate_left
                    · simp only [Act.put, List.setIfInBounds_toArray, List.set_cons_zero, List.set_cons_succ]
                      rfl
                    refine pure_ (i := 6) (N := some 89) (v := ?_) (a' := ?_) (Nw.fl 20 127) rfl rfl (any_of HT_.out (by kernel_rfl)) (fun _ _ _ h => by first | exact h | cases h.1) (Or.inl ⟨by rfl, ?_⟩) ?_ ?_
                    rotate_left
                    · intro w'
                      go_simp
                      with_reducible rfl
                    rotate_left
                    · simp only [Act.put, List.setIfInBounds_toArray, List.set_cons_zero, List.set_cons_succ]
                      rfl
                    refine pure_ (i := 7) (N := some 90) (v := ?_) (a' := ?_) (Nw.fl 20 255) rfl rfl (any_of HT_.out (by kernel_rfl)) (fun _ _ _ h => by first | exact h | cases h.1) (Or.inl ⟨by rfl, ?_⟩) ?_ ?_
                    rotate_left
                    · intro w'
                      go_simp
                      with_reducible rfl
                    rotate_left
                    · simp only [Act.put, List.setIfInBounds_toArray, List.set_cons_zero, List.set_cons_succ]
                      rfl
                    refine take_ (i := 8) (N := some 91) (v := ?_) (a' := ?_) (Nw.fl 20 511) rfl rfl (take_ofW HT_.out HW_.out (by kernel_rfl)) (fun _ _ _ h => by first | exact h | cases h.1) (Or.inl ⟨by rfl, ?_⟩) hHeld ?_ ?_
                    rotate_left
                    · rintro w' ⟨s0, s1, s2⟩
                      have q0 : w'.cell? ⟨g5, 0, none⟩ = some (.int .i64 now) := blk_cell s0 0
                      have q1 : w'.cell? ⟨g5, 1, none⟩ = some (.int .i64 sent) := blk_cell s0 1
                      have q2 : w'.cell? ⟨g5, 2, none⟩ = some (.slice B way.length d) := blk_cell s0 2
                      have q3 : w'.cell? ⟨g5, 3, none⟩ = some (.slice Af fs.length cf) := blk_cell s0 3
                      go_simp
                      with_reducible rfl
                    rotate_left
                    · simp only [Act.put, List.setIfInBounds_toArray, List.set_cons_zero, List.set_cons_succ]
                      rfl
                    refine pure_ (i := 9) (N := some 92) (v := ?_) (a' := ?_) (Nw.fl 20 1023) rfl rfl (any_of HT_.out (by kernel_rfl)) (fun _ _ _ h => by first | exact h | cases h.1) (Or.inl ⟨by rfl, ?_⟩) ?_ ?_
                    rotate_left
                    · intro w'
                      go_simp
                      with_reducible rfl
                    rotate_left
                    · simp only [Act.put, List.setIfInBounds_toArray, List.set_cons_zero, List.set_cons_succ]
                      rfl
                    refine pure_ (i := 10) (N := some 93) (v := ?_) (a' := ?_) (Nw.fl 20 2047) rfl rfl (any_of HT_.out (by kernel_rfl)) (fun _ _ _ h => by first | exact h | cases h.1) (Or.inl ⟨by rfl, ?_⟩) ?_ ?_
                    rotate_left
                    · intro w'
                      go_simp
                      with_reducible rfl
                    rotate_left
                    · simp only [Act.put, List.setIfInBounds_toArray, List.set_cons_zero, List.set_cons_succ]
                      rfl
                    refine pure_ (i := 11) (N := some 94) (v := ?_) (a' := ?_) (Nw.fl 20 4095) rfl rfl (any_of HT_.out (by kernel_rfl)) (fun _ _ _ h => by first | exact h | cases h.1) (Or.inl ⟨by rfl, ?_⟩) ?_ ?_
                    rotate_left
                    · intro w'
                      go_simp
                      with_reducible rfl
                    rotate_left
                    · simp only [Act.put, List.setIfInBounds_toArray, List.set_cons_zero, List.set_cons_succ]
                      rfl
                    refine pure_ (i := 12) (N := some 95) (v := ?_) (a' := ?_) (Nw.fl 20 8191) rfl rfl (any_of HT_.out (by kernel_rfl)) (fun _ _ _ h => by first | exact h | cases h.1) (Or.inl ⟨by rfl, ?_⟩) ?_ ?_
                    rotate_left
                    · intro w'
                      go_simp
                      first | with_reducible rfl | rw [if_pos HIL.out]
                    rotate_left
                    · simp only [Act.put, List.setIfInBounds_toArray, List.set_cons_zero, List.set_cons_succ]
                      rfl
                    refine pure_ (i := 13) (N := some 96) (v := ?_) (a' := ?_) (Nw.fl 20 16383) rfl rfl (any_of HT_.out (by kernel_rfl)) (fun _ _ _ h => by first | exact h | cases h.1) (Or.inl ⟨by rfl, ?_⟩) ?_ ?_
                    rotate_left
                    · intro w'
                      go_simp
                      with_reducible rfl
                    rotate_left
                    · simp only [Act.put, List.setIfInBounds_toArray, List.set_cons_zero, List.set_cons_succ]
                      rfl
                    refine take_ (i := 14) (N := some 97) (v := ?_) (a' := ?_) (Nw.fl 20 32767) rfl rfl (take_ofW HT_.out HW_.out (by kernel_rfl)) (fun _ _ _ h => by first | exact h | cases h.1) (Or.inl ⟨by rfl, ?_⟩) hHeld ?_ ?_
                    rotate_left
                    · rintro w' ⟨s0, s1, s2⟩

                      go_simp
                      with_reducible rfl
                    rotate_left
                    · simp only [Act.put, List.setIfInBounds_toArray, List.set_cons_zero, List.set_cons_succ]
                      rfl
                    refine one_ (i := 15) (N := some 98) (Nw.fl 20 65535) rfl rfl (one_of HT_.out (by kernel_rfl)) (by decide) (fun K hK => ?_)
                    refine Kd.N_lit_step (Kd.int .u8) (w0 := wd) wd.heap.size 5 (by rfl) (N' := 98) rfl (xs := [p.f1]) (inner := [.int .u8 p.f1]) (ok := fun k => wd.heap.size ≤ k) (okp := fun _ => False) ?hr ?hp (fun _ hk => hk.elim) (Nat.le_refl _) (Below.refl _ _) (Nat.le_refl _) (by simp) ?_
                    case hr => first | (go_simp; done) | (go_simp; rfl)
                    case hp => exact Reps.front (c := [.int .u8 p.f1]) (fun _ _ => rfl) rfl (Reps.none _ _) rfl
                    intro v5 w1 hn hb _ _
                    obtain ⟨A5, c5, rfl⟩ := Kd.N_slice hn
                    have HN5 := Aside0.mk hn
                    have HQ1 := Aside0.mk (HQ.out.step hb)
                    have K101 := Aside0.mk ((hb.block _ (blk_lt K10.out)).trans K10.out)
                    refine hK.out _ _ ⟨(hb.block _ (blk_lt hHeld.1)).trans hHeld.1, (hb.block _ (blk_lt hHeld.2.1)).trans hHeld.2.1, pw_cell_below hb hHeld.2.2⟩ (fun hHeld => ?_)
                    clear hK K hn hb
                    refine norm_ (a' := ?_) ?_ ?_
                    rotate_left
                    · show Act.put _ (some 98) _ = _
                      simp only [Act.put, List.setIfInBounds_toArray, List.set_cons_zero, List.set_cons_succ]
                      rfl
                    refine pure_ (i := 16) (N := some 99) (v := ?_) (a' := ?_) (Nw.fl 20 131071) rfl rfl (any_of HT_.out (by kernel_rfl)) (fun _ _ _ h => by first | exact h | cases h.1) (Or.inl ⟨by rfl, ?_⟩) ?_ ?_
                    rotate_left
                    · intro w'
                      go_simp
                      with_reducible rfl
                    rotate_left
                    · simp only [Act.put, List.setIfInBounds_toArray, List.set_cons_zero, List.set_cons_succ]
                      rfl
                    refine one_ (i := 17) (N := some 100) (Nw.fl 20 262143) rfl rfl (one_of HT_.out (by kernel_rfl)) (by decide) (fun K hK => ?_)
                    refine event_step (by rfl) (v := .slice (some ⟨w1.heap.size, 0, none⟩) 1 1) (w1 := w1.alloc (.cells #[.int .i64 (now + 1 + f.f2), .int .i64 sent, .int .i64 tt, .slice A5 [p.f1].length c5] 25)) (by first | (go_simp; done) | (go_simp; rfl)) ?_
                    have hb2 := below_alloc (Below.refl w1.heap.size w1) (.cells #[.int .i64 (now + 1 + f.f2), .int .i64 sent, .int .i64 tt, .slice A5 [p.f1].length c5] 25)
                    refine hK.out _ _ ⟨(hb2.block _ (blk_lt hHeld.1)).trans hHeld.1, (hb2.block _ (blk_lt hHeld.2.1)).trans hHeld.2.1, pw_cell_below hb2 hHeld.2.2⟩ (fun hHeld => ?_)
                    clear hK K hb2
                    refine norm_ (a' := ?_) ?_ ?_
                    rotate_left
                    · show Act.put _ (some 100) _ = _
                      simp only [Act.put, List.setIfInBounds_toArray, List.set_cons_zero, List.set_cons_succ]
                      rfl
                    refine one_ (i := 18) (N := some 101) (Nw.fl 20 524287) rfl rfl (one_of HT_.out (by kernel_rfl)) (by decide) (fun K hK => ?_)
                    refine Kd.N_append_step k25 (w0 := w) (W := w1) w.heap.size (by rfl) (.tmp 83) (.tmp 100) 22 25 (.agg #[(.int .i64 0), (.int .i64 0), (.int .i64 0), (.slice none 0 0)]) 48 rfl Try.underlying22 info25 rfl (by decide) (by decide) u7 want (⟨now + 1 + f.f2, sent, tt, [p.f1]⟩ : S25) [.int .i64 (now + 1 + f.f2), .int .i64 sent, .int .i64 tt, .slice A5 [p.f1].length c5] (fun k => k ≠ g5) (fun k => wd.heap.size ≤ k) rfl rfl (k25_mkF _ _ _ (Kd.N_reads' HN5.out).2.1 (Kd.N_F HN5.out)) (fun k hk => ⟨by have := blk_lt HQ.out.k5; omega, fun e => by have := Kd.N_lt HQ.out.vi k e.symm; omega⟩) (fun k hk => by have := blk_lt HQ1.out.k5; omega) HQ1.out.vi HQ1.out.ba HQ1.out.ba.size (by have := HWL.out; omega) ?_
                    intro v8 w2 hN hB hG hat
                    have hg5 : w2.heap[g5]? = w1.heap[g5]? := hG.block g5 (blk_lt HQ1.out.k5) HQ1.out.o7
                    have hk10 : w1.heap[g10]? = some (.cells #[.bool f.f0, .bool f.f1, .int .i64 f.f2, .int .i64 f.f3] 51 (0, 0)) := K101.out
                    have hg10 : w2.heap[g10]? = w1.heap[g10]? := hG.block g10 (blk_lt hk10) (fun e => HOW.out g10 e.symm rfl)
                    refine hK.out _ _ ⟨hg5.trans HQ1.out.k5, hg10.trans hk10, pw_cell_below hB HX.out.2⟩ (fun hHeld => ?_)
                    have HQ2 := Aside0.mk (show GAt w w2 g5 fs (want ++ [(⟨now + 1 + f.f2, sent, tt, [p.f1]⟩ : S25)]) way now sent v8 B d Af cf from ⟨hB, hg5.trans HQ1.out.k5, hN, Kd.V_afterv HQ1.out.vw hG hat, Kd.V_afterv HQ1.out.vf hG hat, HQ1.out.og, fun e => hN.1 g5 e.symm rfl⟩)
                    have K10b := Aside0.mk (hg10.trans hk10)
                    have HOW2 := Aside0.mk (show ∀ k, v8.ownBlock = some k → k ≠ g10 from fun k hk => by
                      rcases hat with h | ⟨b, h, hb⟩
                      · rw [h] at hk; exact HOW.out k hk
                      · rw [h] at hk
                        injection hk with hk
                        have := blk_lt hk10
                        omega)
                    clear hK K hN hB hG hat hg5 hg10 hk10
                    refine norm_ (a' := ?_) ?_ ?_
                    rotate_left
                    · show Act.put _ (some 101) _ = _
                      simp only [Act.put, List.setIfInBounds_toArray, List.set_cons_zero, List.set_cons_succ]
                      rfl
                    refine pure_ (i := 19) (N := some 7) (v := ?_) (a' := ?_) (Nw.fl 20 1048575) rfl rfl (any_of HT_.out (by kernel_rfl)) (fun _ _ _ h => by first | exact h | cases h.1) (Or.inl ⟨by rfl, ?_⟩) ?_ ?_
                    rotate_left
                    · intro w'
                      go_simp
                      with_reducible rfl
                    rotate_left
                    · simp only [Act.put, List.setIfInBounds_toArray, List.set_cons_zero, List.set_cons_succ]
                      rfl
                    refine done_ (done_of HT_.out (by kernel_rfl)) ?_
                    go_wp2
                    go_meet
                    case rel => exact ⟨by rw [show one1 now sent tt p.f1 f = [(⟨now + 1 + f.f2, sent, tt, [p.f1]⟩ : S25)] from if_neg (by rw [h0]; decide)]; exact HQ2.out, K10b.out, HOW2.out⟩
              case rest =>
                clear HQ K10 HOW
                have HQ := Aside0.mk hcut.out.1
                have K10 := Aside0.mk hcut.out.2.1
                have HOW := Aside0.mk hcut.out.2.2
                clear hcut
                have hl1 : (one1 now sent tt p.f1 f).length ≤ 1 := by unfold one1; split <;> simp
                obtain ⟨wa, hwa⟩ : ∃ t, t = want ++ one1 now sent tt p.f1 f := ⟨_, rfl⟩
                rw [← hwa] at HQ
                have n_ := Aside0.mk (show wa.length ≤ 261 from by rw [hwa, List.length_append]; have := HWL.out; omega)
                clear HWL
                have HWL := n_
                have HWA := Aside0.mk hwa
                clear n_ hl1 hwa
                have q0 : wc.cell? ⟨g10, 0, none⟩ = some (.bool f.f0) := blk_cell K10.out 0
                have q1 : wc.cell? ⟨g10, 1, none⟩ = some (.bool f.f1) := blk_cell K10.out 1
                have q2 : wc.cell? ⟨g10, 2, none⟩ = some (.int .i64 f.f2) := blk_cell K10.out 2
                have q3 : wc.cell? ⟨g10, 3, none⟩ = some (.int .i64 f.f3) := blk_cell K10.out 3
                go_upto_if 103 with fail
                clear q0 q1 q2 q3
                go_cut [7] (fun v7 wc => Aside0 (GAt w wc g5 fs (wa ++ one2 now sent tt p.f1 f) way now sent v7 B d Af cf ∧ wc.heap[g10]? = some (.cells #[.bool f.f0, .bool f.f1, .int .i64 f.f2, .int .i64 f.f3] 51 (0, 0)) ∧ (∀ k, (v7 : Value).ownBlock = some k → k ≠ g10)))
                case first =>
                  cases h0 : f.f1 with
                  | false =>
                    go_wp2
                    go_meet
                    case rel => exact ⟨by rw [show one2 now sent tt p.f1 f = [] from if_neg (by rw [h0]; decide), List.append_nil]; exact HQ.out, K10.out, HOW.out⟩
                  | true =>
                    as_aux_lemma =>
                      go_wp2
                      refine start_ (n := 20) (S := fun w' => w'.heap[g5]? = some (.cells #[.int .i64 now, .int .i64 sent, .slice B way.length d, .slice Af fs.length cf] 44 (0, 0)) ∧ w'.heap[g10]? = some (.cells #[.bool f.f0, .bool f.f1, .int .i64 f.f2, .int .i64 f.f3] 51 (0, 0)) ∧ w'.cell? ⟨(ad.add (i * 2)).block, (ad.add (i * 2)).off + 1, none⟩ = some (.int .u8 p.f1)) (ds := []) (Nw.fl 20 0) (by kernel_rfl) rfl (by kernel_rfl) ⟨HQ.out.k5, K10.out, pw_cell_below HQ.out.ba HX.out.2⟩ (fun hHeld => ?_)
                      refine with_tabW nf20_tab nf20_bits (fun HT_ HW_ => ?_)
                      have n_ := Aside0.mk (HQ.out.step (below_drew (Below.refl _ _)))
                      have n2_ := Aside0.mk (((below_drew (Below.refl _ _)).block _ (blk_lt K10.out)).trans K10.out)
                      clear HQ K10
                      have HQ := n_
                      have K10 := n2_
                      clear n_ n2_
                      generalize (wc).drew = wd at HQ K10 hHeld ⊢
                      refine pure_ (i := 0) (N := some 104) (v := ?_) (a' := ?_) (Nw.fl 20 1) rfl rfl (any_of HT_.out (by kernel_rfl)) (fun _ _ _ h => by first | exact h | cases h.1) (Or.inl ⟨by rfl, ?_⟩) ?_ ?_
                      rotate_left
                      · intro w'
                        go_simp
                        with_reducible rfl
                      rotate_left
                      · simp only [Act.put, List.setIfInBounds_toArray, List.set_cons_zero, List.set_cons_succ]
                        rfl
                      refine pure_ (i := 1) (N := some 105) (v := ?_) (a' := ?_) (Nw.fl 20 3) rfl rfl (any_of HT_.out (by kernel_rfl)) (fun _ _ _ h => by first | exact h | cases h.1) (Or.inl ⟨by rfl, ?_⟩) ?_ ?_
                      rotate_left
                      · intro w'
                        go_simp
                        with_reducible rfl
                      rotate_left
                      · simp only [Act.put, List.setIfInBounds_toArray, List.set_cons_zero, List.set_cons_succ]
                        rfl
                      refine take_ (i := 2) (N := some 106) (v := ?_) (a' := ?_) (Nw.fl 20 7) rfl rfl (take_ofW HT_.out HW_.out (by kernel_rfl)) (fun _ _ _ h => by first | exact h | cases h.1) (Or.inl ⟨by rfl, ?_⟩) hHeld ?_ ?_
                      rotate_left
                      · rintro w' ⟨s0, s1, s2⟩
                        have q0 : w'.cell? ⟨g5, 0, none⟩ = some (.int .i64 now) := blk_cell s0 0
                        have q1 : w'.cell? ⟨g5, 1, none⟩ = some (.int .i64 sent) := blk_cell s0 1
                        have q2 : w'.cell? ⟨g5, 2, none⟩ = some (.slice B way.length d) := blk_cell s0 2
                        have q3 : w'.cell? ⟨g5, 3, none⟩ = some (.slice Af fs.length cf) := blk_cell s0 3
                        go_simp
                        with_reducible rfl
                      rotate_left
                      · simp only [Act.put, List.setIfInBounds_toArray, List.set_cons_zero, List.set_cons_succ]
                        rfl
                      refine pure_ (i := 3) (N := some 107) (v := ?_) (a' := ?_) (Nw.fl 20 15) rfl rfl (any_of HT_.out (by kernel_rfl)) (fun _ _ _ h => by first | exact h | cases h.1) (Or.inl ⟨by rfl, ?_⟩) ?_ ?_
                      rotate_left
                      · intro w'
                        go_simp
                        with_reducible rfl
                      rotate_left
                      · simp only [Act.put, List.setIfInBounds_toArray, List.set_cons_zero, List.set_cons_succ]
                        rfl
                      refine pure_ (i := 4) (N := some 108) (v := ?_) (a' := ?_) (Nw.fl 20 31) rfl rfl (any_of HT_.out (by kernel_rfl)) (fun _ _ _ h => by first | exact h | cases h.1) (Or.inl ⟨by rfl, ?_⟩) ?_ ?_
                      rotate_left
                      · intro w'
                        go_simp
                        with_reducible rfl
                      rotate_left
                      · simp only [Act.put, List.setIfInBounds_toArray, List.set_cons_zero, List.set_cons_succ]
                        rfl
                      refine take_ (i := 5) (N := some 109) (v := ?_) (a' := ?_) (Nw.fl 20 63) rfl rfl (take_ofW HT_.out HW_.out (by kernel_rfl)) (fun _ _ _ h => by first | exact h | cases h.1) (Or.inl ⟨by rfl, ?_⟩) hHeld ?_ ?_
                      rotate_left
                      · rintro w' ⟨s0, s1, s2⟩
                        have q0 : w'.cell? ⟨g10, 0, none⟩ = some (.bool f.f0) := blk_cell s1 0
                        have q1 : w'.cell? ⟨g10, 1, none⟩ = some (.bool f.f1) := blk_cell s1 1
                        have q2 : w'.cell? ⟨g10, 2, none⟩ = some (.int .i64 f.f2) := blk_cell s1 2
                        have q3 : w'.cell? ⟨g10, 3, none⟩ = some (.int .i64 f.f3) := blk_cell s1 3
                        go_simp
                        with_reducible rfl
                      rotate_left
                      · simp only [Act.put, List.setIfInBounds_toArray, List.set_cons_zero, List.set_cons_succ]
                        rfl
                      refine pure_ (i := 6) (N := some 110) (v := ?_) (a' := ?_) (Nw.fl 20 127) rfl rfl (any_of HT_.out (by kernel_rfl)) (fun _ _ _ h => by first | exact h | cases h.1) (Or.inl ⟨by rfl, ?_⟩) ?_ ?_
                      rotate_left
                      · intro w'
                        go_simp
                        with_reducible rfl
                      rotate_left
                      · simp only [Act.put, List.setIfInBounds_toArray, List.set_cons_zero, List.set_cons_succ]
                        rfl
                      refine pure_ (i := 7) (N := some 111) (v := ?_) (a' := ?_) (Nw.fl 20 255) rfl rfl (any_of HT_.out (by kernel_rfl)) (fun _ _ _ h => by first | exact h | cases h.1) (Or.inl ⟨by rfl, ?_⟩) ?_ ?_
                      rotate_left
                      · intro w'
                        go_simp
                        with_reducible rfl
                      rotate_left
                      · simp only [Act.put, List.setIfInBounds_toArray, List.set_cons_zero, List.set_cons_succ]
                        rfl
                      refine take_ (i := 8) (N := some 112) (v := ?_) (a' := ?_) (Nw.fl 20 511) rfl rfl (take_ofW HT_.out HW_.out (by kernel_rfl)) (fun _ _ _ h => by first | exact h | cases h.1) (Or.inl ⟨by rfl, ?_⟩) hHeld ?_ ?_
                      rotate_left
                      · rintro w' ⟨s0, s1, s2⟩
                        have q0 : w'.cell? ⟨g5, 0, none⟩ = some (.int .i64 now) := blk_cell s0 0
                        have q1 : w'.cell? ⟨g5, 1, none⟩ = some (.int .i64 sent) := blk_cell s0 1
                        have q2 : w'.cell? ⟨g5, 2, none⟩ = some (.slice B way.length d) := blk_cell s0 2
                        have q3 : w'.cell? ⟨g5, 3, none⟩ = some (.slice Af fs.length cf) := blk_cell s0 3
                        go_simp
                        with_reducible rfl
                      rotate_left
                      · simp only [Act.put, List.setIfInBounds_toArray, List.set_cons_zero, List.set_cons_succ]
                        rfl
                      refine pure_ (i := 9) (N := some 113) (v := ?_) (a' := ?_) (Nw.fl 20 1023) rfl rfl (any_of HT_.out (by kernel_rfl)) (fun _ _ _ h => by first | exact h | cases h.1) (Or.inl ⟨by rfl, ?_⟩) ?_ ?_
                      rotate_left
                      · intro w'
                        go_simp
                        with_reducible rfl
                      rotate_left
                      · simp only [Act.put, List.setIfInBounds_toArray, List.set_cons_zero, List.set_cons_succ]
                        rfl
                      refine pure_ (i := 10) (N := some 114) (v := ?_) (a' := ?_) (Nw.fl 20 2047) rfl rfl (any_of HT_.out (by kernel_rfl)) (fun _ _ _ h => by first | exact h | cases h.1) (Or.inl ⟨by rfl, ?_⟩) ?_ ?_
                      rotate_left
                      · intro w'
                        go_simp
                        with_reducible rfl
                      rotate_left
                      · simp only [Act.put, List.setIfInBounds_toArray, List.set_cons_zero, List.set_cons_succ]
                        rfl
                      refine pure_ (i := 11) (N := some 115) (v := ?_) (a' := ?_) (Nw.fl 20 4095) rfl rfl (any_of HT_.out (by kernel_rfl)) (fun _ _ _ h => by first | exact h | cases h.1) (Or.inl ⟨by rfl, ?_⟩) ?_ ?_
                      rotate_left
                      · intro w'
                        go_simp
                        with_reducible rfl
                      rotate_left
                      · simp only [Act.put, List.setIfInBounds_toArray, List.set_cons_zero, List.set_cons_succ]
                        rfl
                      refine pure_ (i := 12) (N := some 116) (v := ?_) (a' := ?_) (Nw.fl 20 8191) rfl rfl (any_of HT_.out (by kernel_rfl)) (fun _ _ _ h => by first | exact h | cases h.1) (Or.inl ⟨by rfl, ?_⟩) ?_ ?_
                      rotate_left
                      · intro w'
                        go_simp
                        first | with_reducible rfl | rw [if_pos HIL.out]
                      rotate_left
                      · simp only [Act.put, List.setIfInBounds_toArray, List.set_cons_zero, List.set_cons_succ]
                        rfl
                      refine pure_ (i := 13) (N := some 117) (v := ?_) (a' := ?_) (Nw.fl 20 16383) rfl rfl (any_of HT_.out (by kernel_rfl)) (fun _ _ _ h => by first | exact h | cases h.1) (Or.inl ⟨by rfl, ?_⟩) ?_ ?_
                      rotate_left
                      · intro w'
                        go_simp
                        with_reducible rfl
                      rotate_left
                      · simp only [Act.put, List.setIfInBounds_toArray, List.set_cons_zero, List.set_cons_succ]
                        rfl
                      refine take_ (i := 14) (N := some 118) (v := ?_) (a' := ?_) (Nw.fl 20 32767) rfl rfl (take_ofW HT_.out HW_.out (by kernel_rfl)) (fun _ _ _ h => by first | exact h | cases h.1) (Or.inl ⟨by rfl, ?_⟩) hHeld ?_ ?_
                      rotate_left
                      · rintro w' ⟨s0, s1, s2⟩

                        go_simp
                        with_reducible rfl
                      rotate_left
                      · simp only [Act.put, List.setIfInBounds_toArray, List.set_cons_zero, List.set_cons_succ]
                        rfl
                      refine one_ (i := 15) (N := some 119) (Nw.fl 20 65535) rfl rfl (one_of HT_.out (by kernel_rfl)) (by decide) (fun K hK => ?_)
                      refine Kd.N_lit_step (Kd.int .u8) (w0 := wd) wd.heap.size 5 (by rfl) (N' := 119) rfl (xs := [p.f1]) (inner := [.int .u8 p.f1]) (ok := fun k => wd.heap.size ≤ k) (okp := fun _ => False) ?hr ?hp (fun _ hk => hk.elim) (Nat.le_refl _) (Below.refl _ _) (Nat.le_refl _) (by simp) ?_
                      case hr => first | (go_simp; done) | (go_simp; rfl)
                      case hp => exact Reps.front (c := [.int .u8 p.f1]) (fun _ _ => rfl) rfl (Reps.none _ _) rfl
                      intro v5 w1 hn hb _ _
                      obtain ⟨A5, c5, rfl⟩ := Kd.N_slice hn
                      have HN5 := Aside0.mk hn
                      have HQ1 := Aside0.mk (HQ.out.step hb)
                      have K101 := Aside0.mk ((hb.block _ (blk_lt K10.out)).trans K10.out)
                      refine hK.out _ _ ⟨(hb.block _ (blk_lt hHeld.1)).trans hHeld.1, (hb.block _ (blk_lt hHeld.2.1)).trans hHeld.2.1, pw_cell_below hb hHeld.2.2⟩ (fun hHeld => ?_)
                      clear hK K hn hb
                      refine norm_ (a' := ?_) ?_ ?_
                      rotate_left
                      · show Act.put _ (some 119) _ = _
                        simp only [Act.put, List.setIfInBounds_toArray, List.set_cons_zero, List.set_cons_succ]
                        rfl
                      refine pure_ (i := 16) (N := some 120) (v := ?_) (a' := ?_) (Nw.fl 20 131071) rfl rfl (any_of HT_.out (by kernel_rfl)) (fun _ _ _ h => by first | exact h | cases h.1) (Or.inl ⟨by rfl, ?_⟩) ?_ ?_
                      rotate_left
                      · intro w'
                        go_simp
                        with_reducible rfl
                      rotate_left
                      · simp only [Act.put, List.setIfInBounds_toArray, List.set_cons_zero, List.set_cons_succ]
                        rfl
                      refine one_ (i := 17) (N := some 121) (Nw.fl 20 262143) rfl rfl (one_of HT_.out (by kernel_rfl)) (by decide) (fun K hK => ?_)
                      refine event_step (by rfl) (v := .slice (some ⟨w1.heap.size, 0, none⟩) 1 1) (w1 := w1.alloc (.cells #[.int .i64 (now + 1 + f.f3), .int .i64 sent, .int .i64 tt, .slice A5 [p.f1].length c5] 25)) (by first | (go_simp; done) | (go_simp; rfl)) ?_
                      have hb2 := below_alloc (Below.refl w1.heap.size w1) (.cells #[.int .i64 (now + 1 + f.f3), .int .i64 sent, .int .i64 tt, .slice A5 [p.f1].length c5] 25)
                      refine hK.out _ _ ⟨(hb2.block _ (blk_lt hHeld.1)).trans hHeld.1, (hb2.block _ (blk_lt hHeld.2.1)).trans hHeld.2.1, pw_cell_below hb2 hHeld.2.2⟩ (fun hHeld => ?_)
                      clear hK K hb2
                      refine norm_ (a' := ?_) ?_ ?_
                      rotate_left
                      · show Act.put _ (some 121) _ = _
                        simp only [Act.put, List.setIfInBounds_toArray, List.set_cons_zero, List.set_cons_succ]
                        rfl
                      refine one_ (i := 18) (N := some 122) (Nw.fl 20 524287) rfl rfl (one_of HT_.out (by kernel_rfl)) (by decide) (fun K hK => ?_)
                      refine Kd.N_append_step k25 (w0 := w) (W := w1) w.heap.size (by rfl) (.tmp 104) (.tmp 121) 22 25 (.agg #[(.int .i64 0), (.int .i64 0), (.int .i64 0), (.slice none 0 0)]) 48 rfl Try.underlying22 info25 rfl (by decide) (by decide) u7 wa (⟨now + 1 + f.f3, sent, tt, [p.f1]⟩ : S25) [.int .i64 (now + 1 + f.f3), .int .i64 sent, .int .i64 tt, .slice A5 [p.f1].length c5] (fun k => k ≠ g5) (fun k => wd.heap.size ≤ k) rfl rfl (k25_mkF _ _ _ (Kd.N_reads' HN5.out).2.1 (Kd.N_F HN5.out)) (fun k hk => ⟨by have := blk_lt HQ.out.k5; omega, fun e => by have := Kd.N_lt HQ.out.vi k e.symm; omega⟩) (fun k hk => by have := blk_lt HQ1.out.k5; omega) HQ1.out.vi HQ1.out.ba HQ1.out.ba.size (by have := HWL.out; omega) ?_
                      intro v8 w2 hN hB hG hat
                      have hg5 : w2.heap[g5]? = w1.heap[g5]? := hG.block g5 (blk_lt HQ1.out.k5) HQ1.out.o7
                      have hk10 : w1.heap[g10]? = some (.cells #[.bool f.f0, .bool f.f1, .int .i64 f.f2, .int .i64 f.f3] 51 (0, 0)) := K101.out
                      have hg10 : w2.heap[g10]? = w1.heap[g10]? := hG.block g10 (blk_lt hk10) (fun e => HOW.out g10 e.symm rfl)
                      refine hK.out _ _ ⟨hg5.trans HQ1.out.k5, hg10.trans hk10, pw_cell_below hB HX.out.2⟩ (fun hHeld => ?_)
                      have HQ2 := Aside0.mk (show GAt w w2 g5 fs (wa ++ [(⟨now + 1 + f.f3, sent, tt, [p.f1]⟩ : S25)]) way now sent v8 B d Af cf from ⟨hB, hg5.trans HQ1.out.k5, hN, Kd.V_afterv HQ1.out.vw hG hat, Kd.V_afterv HQ1.out.vf hG hat, HQ1.out.og, fun e => hN.1 g5 e.symm rfl⟩)
                      have K10b := Aside0.mk (hg10.trans hk10)
                      have HOW2 := Aside0.mk (show ∀ k, v8.ownBlock = some k → k ≠ g10 from fun k hk => by
                        rcases hat with h | ⟨b, h, hb⟩
                        · rw [h] at hk; exact HOW.out k hk
                        · rw [h] at hk
                          injection hk with hk
                          have := blk_lt hk10
                          omega)
                      clear hK K hN hB hG hat hg5 hg10 hk10
                      refine norm_ (a' := ?_) ?_ ?_
                      rotate_left
                      · show Act.put _ (some 122) _ = _
                        simp only [Act.put, List.setIfInBounds_toArray, List.set_cons_zero, List.set_cons_succ]
                        rfl
                      refine pure_ (i := 19) (N := some 7) (v := ?_) (a' := ?_) (Nw.fl 20 1048575) rfl rfl (any_of HT_.out (by kernel_rfl)) (fun _ _ _ h => by first | exact h | cases h.1) (Or.inl ⟨by rfl, ?_⟩) ?_ ?_
                      rotate_left
                      · intro w'
                        go_simp
                        with_reducible rfl
                      rotate_left
                      · simp only [Act.put, List.setIfInBounds_toArray, List.set_cons_zero, List.set_cons_succ]
                        rfl
                      refine done_ (done_of HT_.out (by kernel_rfl)) ?_
                      go_wp2
                      go_meet
                      case rel => exact ⟨by rw [show one2 now sent tt p.f1 f = [(⟨now + 1 + f.f3, sent, tt, [p.f1]⟩ : S25)] from if_pos h0]; exact HQ2.out, K10b.out, HOW2.out⟩
                case rest =>
                  clear HQ K10 HOW
                  have HQ := Aside0.mk hcut.out.1
                  have K10 := Aside0.mk hcut.out.2.1
                  have HOW := Aside0.mk hcut.out.2.2
                  clear hcut
                  clear K10 HOW
                  obtain ⟨wb, hwb⟩ : ∃ t, t = wa ++ one2 now sent tt p.f1 f := ⟨_, rfl⟩
                  rw [← hwb] at HQ
                  have HWB := Aside0.mk hwb
                  clear hwb hw1 hw2 hw3 hv1 hv2 hv3
                  go_wp2
                  refine start_ (n := 15) (S := fun w' => w'.heap[g5]? = some (.cells #[.int .i64 now, .int .i64 sent, .slice B way.length d, .slice Af fs.length cf] 44 (0, 0)) ∧ w'.cell? ⟨(ad.add (i * 2)).block, (ad.add (i * 2)).off + 1, none⟩ = some (.int .u8 p.f1)) (ds := []) (Nw.fl 15 0) (by kernel_rfl) rfl (by kernel_rfl) ⟨HQ.out.k5, pw_cell_below HQ.out.ba HX.out.2⟩ (fun hHeld => ?_)
                  refine with_tabW nf21_tab nf21_bits (fun HT_ HW_ => ?_)
                  have n_ := Aside0.mk (HQ.out.step (below_drew (Below.refl _ _)))
                  clear HQ
                  have HQ := n_
                  clear n_
                  generalize wc.drew = wd at HQ hHeld ⊢
                  refine take_ (i := 0) (N := some 124) (v := ?_) (a' := ?_) (Nw.fl 15 1) rfl rfl (take_ofW HT_.out HW_.out (by kernel_rfl)) (fun _ _ _ h => by first | exact h | cases h.1) (Or.inl ⟨by rfl, ?_⟩) hHeld ?_ ?_
                  rotate_left
                  · rintro w' ⟨s0, s1⟩
                    have q0 : w'.cell? ⟨g5, 0, none⟩ = some (.int .i64 now) := blk_cell s0 0
                    have q1 : w'.cell? ⟨g5, 1, none⟩ = some (.int .i64 sent) := blk_cell s0 1
                    have q2 : w'.cell? ⟨g5, 2, none⟩ = some (.slice B way.length d) := blk_cell s0 2
                    have q3 : w'.cell? ⟨g5, 3, none⟩ = some (.slice Af fs.length cf) := blk_cell s0 3
                    go_simp
                    with_reducible rfl
                  rotate_left
                  · simp only [Act.put, List.setIfInBounds_toArray, List.set_cons_zero, List.set_cons_succ]
                    rfl
                  refine pure_ (i := 1) (N := some 125) (v := ?_) (a' := ?_) (Nw.fl 15 3) rfl rfl (any_of HT_.out (by kernel_rfl)) (fun _ _ _ h => by first | exact h | cases h.1) (Or.inl ⟨by rfl, ?_⟩) ?_ ?_
                  rotate_left
                  · intro w'
                    go_simp
                    with_reducible rfl
                  rotate_left
                  · simp only [Act.put, List.setIfInBounds_toArray, List.set_cons_zero, List.set_cons_succ]
                    rfl
                  refine pure_ (i := 2) (N := some 126) (v := ?_) (a' := ?_) (Nw.fl 15 7) rfl rfl (any_of HT_.out (by kernel_rfl)) (fun _ _ _ h => by first | exact h | cases h.1) (Or.inl ⟨by rfl, ?_⟩) ?_ ?_
                  rotate_left
                  · intro w'
                    go_simp
                    with_reducible rfl
                  rotate_left
                  · simp only [Act.put, List.setIfInBounds_toArray, List.set_cons_zero, List.set_cons_succ]
                    rfl
                  refine pure_ (i := 3) (N := some 127) (v := ?_) (a' := ?_) (Nw.fl 15 15) rfl rfl (any_of HT_.out (by kernel_rfl)) (fun _ _ _ h => by first | exact h | cases h.1) (Or.inl ⟨by rfl, ?_⟩) ?_ ?_
                  rotate_left
                  · intro w'
                    go_simp
                    with_reducible rfl
                  rotate_left
                  · simp only [Act.put, List.setIfInBounds_toArray, List.set_cons_zero, List.set_cons_succ]
                    rfl
                  refine pure_ (i := 4) (N := some 128) (v := ?_) (a' := ?_) (Nw.fl 15 31) rfl rfl (any_of HT_.out (by kernel_rfl)) (fun _ _ _ h => by first | exact h | cases h.1) (Or.inl ⟨by rfl, ?_⟩) ?_ ?_
                  rotate_left
                  · intro w'
                    go_simp
                    first | with_reducible rfl | rw [if_pos HIL.out]
                  rotate_left
                  · simp only [Act.put, List.setIfInBounds_toArray, List.set_cons_zero, List.set_cons_succ]
                    rfl
                  refine pure_ (i := 5) (N := some 129) (v := ?_) (a' := ?_) (Nw.fl 15 63) rfl rfl (any_of HT_.out (by kernel_rfl)) (fun _ _ _ h => by first | exact h | cases h.1) (Or.inl ⟨by rfl, ?_⟩) ?_ ?_
                  rotate_left
                  · intro w'
                    go_simp
                    with_reducible rfl
                  rotate_left
                  · simp only [Act.put, List.setIfInBounds_toArray, List.set_cons_zero, List.set_cons_succ]
                    rfl
                  refine take_ (i := 6) (N := some 130) (v := ?_) (a' := ?_) (Nw.fl 15 127) rfl rfl (take_ofW HT_.out HW_.out (by kernel_rfl)) (fun _ _ _ h => by first | exact h | cases h.1) (Or.inl ⟨by rfl, ?_⟩) hHeld ?_ ?_
                  rotate_left
                  · rintro w' ⟨s0, s1⟩

                    go_simp
                    with_reducible rfl
                  rotate_left
                  · simp only [Act.put, List.setIfInBounds_toArray, List.set_cons_zero, List.set_cons_succ]
                    rfl
                  obtain ⟨SW, hsw⟩ : ∃ t, t = (sendW now sent tt [p.f1] way (fateAt fs sent)) := ⟨_, rfl⟩
                  have HSW := Aside0.mk hsw
                  clear hsw
                  have HBW := Aside0.mk (Below.refl wd.heap.size wd)
                  refine join_ (σ := (Option Addr × Nat) × (Option Addr × Nat) × Nat) 2 (Nw.fl 15 8191) (fun s => [(131, .slice s.2.1.1 [p.f1].length s.2.1.2), (132, .tuple #[.agg #[.int .i64 now, .int .i64 (sent + 1), .slice s.1.1 SW.length s.1.2, .slice Af fs.length cf], .int .i64 0]), (123, .tuple #[.agg #[.int .i64 now, .int .i64 (sent + 1), .slice s.1.1 SW.length s.1.2, .slice Af fs.length cf], .int .i64 0]), (133, .agg #[.int .i64 now, .int .i64 (sent + 1), .slice s.1.1 SW.length s.1.2, .slice Af fs.length cf]), (134, .int .i64 0), (11, .pointer (some ⟨s.2.2, 0, none⟩))]) (fun s w' => Below wd.heap.size wd w' ∧ wd.heap.size ≤ s.2.2 ∧ w'.heap[s.2.2]? = some (.cells #[.int .i64 0, .int .i64 0, .slice none 0 0, .slice none 0 0] 44 (0, 0)) ∧ Kd.V k25 25 w' w.heap.size (fun k => ((w.heap.size ≤ k ∧ k ≠ g5) ∧ some k ≠ (u7 : Value).ownBlock) ∧ k ≠ s.2.2) (.slice s.1.1 SW.length s.1.2) SW) ?_ ?_
                  rotate_left
                  · intro J
                    as_aux_lemma =>
                      refine two_ (i := 7) (j := 12) (Ni := some 131) (Nj := some 11) (Nw.fl 15 255) (Nw.fl 15 4223) rfl rfl rfl rfl (two_of HT_.out (by kernel_rfl)) (by decide) (by decide) (fun K hK => ?_) (fun K hK => ?_)
                      · refine Kd.N_lit_step (Kd.int .u8) (w0 := wd) wd.heap.size 5 (by rfl) (N' := 131) rfl (xs := [p.f1]) (inner := [.int .u8 p.f1]) (ok := fun k => wd.heap.size ≤ k) (okp := fun _ => False) ?hr ?hp (fun _ hk => hk.elim) (Nat.le_refl _) (Below.refl _ _) (Nat.le_refl _) (by simp) ?_
                        case hr => first | (go_simp; done) | (go_simp; rfl)
                        case hp => exact Reps.front (c := [.int .u8 p.f1]) (fun _ _ => rfl) rfl (Reps.none _ _) rfl
                        intro v5 x1 hn hb _ _
                        obtain ⟨A5, c5, rfl⟩ := Kd.N_slice hn
                        refine hK.out _ _ ⟨(hb.block _ (blk_lt hHeld.1)).trans hHeld.1, pw_cell_below hb hHeld.2⟩ (fun hHeld => ?_)
                        have n_ := Aside0.mk (HQ.out.step hb)
                        clear HQ
                        have HQ := n_
                        clear n_
                        have n_ := Aside0.mk (HBW.out.trans (hb.mono HBW.out.size))
                        clear HBW
                        have HBW := n_
                        clear n_
                        have HN := Aside0.mk hn
                        clear hK K hn hb
                        refine norm_ (a' := ?_) ?_ ?_
                        rotate_left
                        · show Act.put _ (some 131) _ = _
                          simp only [Act.put, List.setIfInBounds_toArray, List.set_cons_zero, List.set_cons_succ]
                          rfl
                        refine two_ (i := 8) (j := 12) (Ni := some 132) (Nj := some 11) (Nw.fl 15 511) (Nw.fl 15 4351) rfl rfl rfl rfl (two_of HT_.out (by kernel_rfl)) (by decide) (by decide) (fun K hK => ?_) (fun K hK => ?_)
                        · refine goes_ Try.func23 (by kernel_rfl) rfl #[.agg #[.int .i64 now, .int .i64 sent, .slice B way.length d, .slice Af fs.length cf], .int .i64 tt, .slice A5 [p.f1].length c5] (by rfl) rfl rfl (by (try simp only [List.map_toArray, List.map_cons, List.map_nil, List.append_toArray, List.cons_append, List.nil_append]); first | done | rfl) ?_
                          have hv1 := Kd.V_reads' HQ.out.vw
                          have hv2 := Kd.V_reads' HQ.out.vf
                          refine (sendC hv1.2.2 hv1.2.1 hv2.2.2 hv2.2.1 (Kd.N_reads' HN.out).2.2 (Kd.N_reads' HN.out).2.1 ⟨by have := HM.out.len; omega, by have := HM.out.fl; omega⟩ HM.out.bnd ⟨by simp, fun c hc => by
                            have : c = p.f1 := by simpa using hc
                            rw [this]; exact HP.out.2⟩ HM.out.goes HT2.out).mono ?_
                          clear hv1 hv2
                          rw [← HSW.out]
                          rintro e x2 ⟨B2, d2, rfl, hv, hb⟩
                          refine ⟨_, rfl, hK.out _ _ ⟨(hb.block _ (blk_lt hHeld.1)).trans hHeld.1, pw_cell_below hb hHeld.2⟩ (fun hHeld => ?_)⟩
                          have hvf := HQ.out.fresh hv
                          have HV0 := Aside0.mk hvf
                          have n_ := Aside0.mk (HQ.out.step hb)
                          clear HQ
                          have HQ := n_
                          clear n_
                          have n_ := Aside0.mk (HBW.out.trans (hb.mono HBW.out.size))
                          clear HBW
                          have HBW := n_
                          clear n_
                          have n_ := Aside0.mk (Kd.N_below HN.out hb)
                          clear HN
                          have HN := n_
                          clear n_
                          have HV := HV0
                          clear HV0 hK K hv hb hvf
                          refine norm_ (a' := ?_) ?_ ?_
                          rotate_left
                          · show Act.put _ (some 132) _ = _
                            simp only [Act.put, List.setIfInBounds_toArray, List.set_cons_zero, List.set_cons_succ]
                            rfl
                          refine pure_ (i := 9) (N := some 123) (v := ?_) (a' := ?_) (Nw.fl 15 1023) rfl rfl (any_of HT_.out (by kernel_rfl)) (fun _ _ _ h => by first | exact h | cases h.1) (Or.inl ⟨by rfl, ?_⟩) ?_ ?_
                          rotate_left
                          · intro w'
                            go_simp
                            with_reducible rfl
                          rotate_left
                          · simp only [Act.put, List.setIfInBounds_toArray, List.set_cons_zero, List.set_cons_succ]
                            rfl
                          refine pure_ (i := 10) (N := some 133) (v := ?_) (a' := ?_) (Nw.fl 15 2047) rfl rfl (any_of HT_.out (by kernel_rfl)) (fun _ _ _ h => by first | exact h | cases h.1) (Or.inl ⟨by rfl, ?_⟩) ?_ ?_
                          rotate_left
                          · intro w'
                            go_simp
                            with_reducible rfl
                          rotate_left
                          · simp only [Act.put, List.setIfInBounds_toArray, List.set_cons_zero, List.set_cons_succ]
                            rfl
                          refine pure_ (i := 11) (N := some 134) (v := ?_) (a' := ?_) (Nw.fl 15 4095) rfl rfl (any_of HT_.out (by kernel_rfl)) (fun _ _ _ h => by first | exact h | cases h.1) (Or.inl ⟨by rfl, ?_⟩) ?_ ?_
                          rotate_left
                          · intro w'
                            go_simp
                            with_reducible rfl
                          rotate_left
                          · simp only [Act.put, List.setIfInBounds_toArray, List.set_cons_zero, List.set_cons_succ]
                            rfl
                          refine one_ (i := 12) (N := some 11) (Nw.fl 15 8191) rfl rfl (one_of HT_.out (by kernel_rfl)) (by decide) (fun K hK => ?_)
                          obtain ⟨g11, hg11⟩ : ∃ g, g = x2.heap.size := ⟨_, rfl⟩
                          obtain ⟨x3, hx⟩ : ∃ x, x = x2.alloc (.cells #[.int .i64 0, .int .i64 0, .slice none 0 0, .slice none 0 0] 44) := ⟨_, rfl⟩
                          have hb : Below x2.heap.size x2 x3 := by rw [hx]; exact below_alloc (Below.refl _ _) _
                          have HG11 := Aside0.mk (show wd.heap.size ≤ g11 from by rw [hg11]; exact HBW.out.size)
                          have KN := Aside0.mk (show x3.heap[g11]? = some (.cells #[.int .i64 0, .int .i64 0, .slice none 0 0, .slice none 0 0] 44 (0, 0)) from by rw [hg11, hx]; exact blk_new _ _)
                          refine event_step (by rfl) (v := .pointer (some ⟨g11, 0, none⟩)) (w1 := x3) (by rw [hg11, hx]; first | (go_simp; done) | (go_simp; rfl)) ?_
                          refine hK.out _ _ ⟨(hb.block _ (blk_lt hHeld.1)).trans hHeld.1, pw_cell_below hb hHeld.2⟩ (fun hHeld => ?_)
                          have n_ := Aside0.mk (Kd.V_mono (Kd.V_bound HV.out) (ok' := (fun k => ((w.heap.size ≤ k ∧ k ≠ g5) ∧ some k ≠ (u7 : Value).ownBlock) ∧ k ≠ g11)) (fun k hk => ⟨hk.1, fun e => by have := hk.2; omega⟩))
                          clear HV
                          have HV := n_
                          clear n_
                          have n_ := Aside0.mk (HQ.out.step hb)
                          clear HQ
                          have HQ := n_
                          clear n_
                          have n_ := Aside0.mk (HBW.out.trans (hb.mono HBW.out.size))
                          clear HBW
                          have HBW := n_
                          clear n_
                          have n_ := Aside0.mk (Kd.N_below HN.out hb)
                          clear HN
                          have HN := n_
                          clear n_
                          have n_ := Aside0.mk (Kd.V_below HV.out hb)
                          clear HV
                          have HV := n_
                          clear n_
                          clear hK K hb hx hg11
                          refine norm_ (a' := ?_) ?_ ?_
                          rotate_left
                          · show Act.put _ (some 11) _ = _
                            simp only [Act.put, List.setIfInBounds_toArray, List.set_cons_zero, List.set_cons_succ]
                            rfl
                          refine norm_ ?_ (J ((B2, d2), (A5, c5), g11) _ ⟨HBW.out, HG11.out, KN.out, HV.out⟩)
                          first | (simp only [putAll, Act.put, List.setIfInBounds_toArray, List.set_cons_zero, List.set_cons_succ]; done) | (simp only [putAll, Act.put, List.setIfInBounds_toArray, List.set_cons_zero, List.set_cons_succ]; rfl)
                        · obtain ⟨g11, hg11⟩ : ∃ g, g = x1.heap.size := ⟨_, rfl⟩
                          obtain ⟨x4, hx⟩ : ∃ x, x = x1.alloc (.cells #[.int .i64 0, .int .i64 0, .slice none 0 0, .slice none 0 0] 44) := ⟨_, rfl⟩
                          have hb : Below x1.heap.size x1 x4 := by rw [hx]; exact below_alloc (Below.refl _ _) _
                          have HG11 := Aside0.mk (show wd.heap.size ≤ g11 from by rw [hg11]; exact HBW.out.size)
                          have KN := Aside0.mk (show x4.heap[g11]? = some (.cells #[.int .i64 0, .int .i64 0, .slice none 0 0, .slice none 0 0] 44 (0, 0)) from by rw [hg11, hx]; exact blk_new _ _)
                          refine event_step (by rfl) (v := .pointer (some ⟨g11, 0, none⟩)) (w1 := x4) (by rw [hg11, hx]; first | (go_simp; done) | (go_simp; rfl)) ?_
                          refine hK.out _ _ ⟨(hb.block _ (blk_lt hHeld.1)).trans hHeld.1, pw_cell_below hb hHeld.2⟩ (fun hHeld => ?_)
                          have n_ := Aside0.mk (HQ.out.step hb)
                          clear HQ
                          have HQ := n_
                          clear n_
                          have n_ := Aside0.mk (HBW.out.trans (hb.mono HBW.out.size))
                          clear HBW
                          have HBW := n_
                          clear n_
                          have n_ := Aside0.mk (Kd.N_below HN.out hb)
                          clear HN
                          have HN := n_
                          clear n_
                          clear hK K hb hx hg11
                          refine norm_ (a' := ?_) ?_ ?_
                          rotate_left
                          · show Act.put _ (some 11) _ = _
                            simp only [Act.put, List.setIfInBounds_toArray, List.set_cons_zero, List.set_cons_succ]
                            rfl
                          refine one_ (i := 8) (N := some 132) (Nw.fl 15 4607) rfl rfl (one_of HT_.out (by kernel_rfl)) (by decide) (fun K hK => ?_)
                          refine goes_ Try.func23 (by kernel_rfl) rfl #[.agg #[.int .i64 now, .int .i64 sent, .slice B way.length d, .slice Af fs.length cf], .int .i64 tt, .slice A5 [p.f1].length c5] (by rfl) rfl rfl (by (try simp only [List.map_toArray, List.map_cons, List.map_nil, List.append_toArray, List.cons_append, List.nil_append]); first | done | rfl) ?_
                          have hv1 := Kd.V_reads' HQ.out.vw
                          have hv2 := Kd.V_reads' HQ.out.vf
                          refine (sendC hv1.2.2 hv1.2.1 hv2.2.2 hv2.2.1 (Kd.N_reads' HN.out).2.2 (Kd.N_reads' HN.out).2.1 ⟨by have := HM.out.len; omega, by have := HM.out.fl; omega⟩ HM.out.bnd ⟨by simp, fun c hc => by
                            have : c = p.f1 := by simpa using hc
                            rw [this]; exact HP.out.2⟩ HM.out.goes HT2.out).mono ?_
                          clear hv1 hv2
                          rw [← HSW.out]
                          rintro e x5 ⟨B2, d2, rfl, hv, hb⟩
                          refine ⟨_, rfl, hK.out _ _ ⟨(hb.block _ (blk_lt hHeld.1)).trans hHeld.1, pw_cell_below hb hHeld.2⟩ (fun hHeld => ?_)⟩
                          have hvf := HQ.out.fresh hv
                          have hlt11 := blk_lt KN.out
                          have HV0 := Aside0.mk (show Kd.V k25 25 x5 w.heap.size (fun k => ((w.heap.size ≤ k ∧ k ≠ g5) ∧ some k ≠ (u7 : Value).ownBlock) ∧ k ≠ g11) (.slice B2 SW.length d2) SW from Kd.V_mono (Kd.V_lower hv HQ.out.ba.size) (fun k hk => by
                            have h1 : _ ≤ k := hk
                            have h2 := blk_lt HQ.out.k5
                            have h3 := HQ.out.ba.size
                            exact ⟨⟨⟨by omega, by omega⟩, Kd.fresh' (Kd.N_lt HQ.out.vi) k h1⟩, by omega⟩))
                          clear hlt11
                          have n_ := Aside0.mk (HQ.out.step hb)
                          clear HQ
                          have HQ := n_
                          clear n_
                          have n_ := Aside0.mk (HBW.out.trans (hb.mono HBW.out.size))
                          clear HBW
                          have HBW := n_
                          clear n_
                          have n_ := Aside0.mk (Kd.N_below HN.out hb)
                          clear HN
                          have HN := n_
                          clear n_
                          have n_ := Aside0.mk ((hb.block _ (blk_lt KN.out)).trans KN.out)
                          clear KN
                          have KN := n_
                          clear n_
                          have HV := HV0
                          clear HV0 hK K hv hb hvf
                          refine norm_ (a' := ?_) ?_ ?_
                          rotate_left
                          · show Act.put _ (some 132) _ = _
                            simp only [Act.put, List.setIfInBounds_toArray, List.set_cons_zero, List.set_cons_succ]
                            rfl
                          refine pure_ (i := 9) (N := some 123) (v := ?_) (a' := ?_) (Nw.fl 15 5119) rfl rfl (any_of HT_.out (by kernel_rfl)) (fun _ _ _ h => by first | exact h | cases h.1) (Or.inl ⟨by rfl, ?_⟩) ?_ ?_
                          rotate_left
                          · intro w'
                            go_simp
                            with_reducible rfl
                          rotate_left
                          · simp only [Act.put, List.setIfInBounds_toArray, List.set_cons_zero, List.set_cons_succ]
                            rfl
                          refine pure_ (i := 10) (N := some 133) (v := ?_) (a' := ?_) (Nw.fl 15 6143) rfl rfl (any_of HT_.out (by kernel_rfl)) (fun _ _ _ h => by first | exact h | cases h.1) (Or.inl ⟨by rfl, ?_⟩) ?_ ?_
                          rotate_left
                          · intro w'
                            go_simp
                            with_reducible rfl
                          rotate_left
                          · simp only [Act.put, List.setIfInBounds_toArray, List.set_cons_zero, List.set_cons_succ]
                            rfl
                          refine pure_ (i := 11) (N := some 134) (v := ?_) (a' := ?_) (Nw.fl 15 8191) rfl rfl (any_of HT_.out (by kernel_rfl)) (fun _ _ _ h => by first | exact h | cases h.1) (Or.inl ⟨by rfl, ?_⟩) ?_ ?_
                          rotate_left
                          · intro w'
                            go_simp
                            with_reducible rfl
                          rotate_left
                          · simp only [Act.put, List.setIfInBounds_toArray, List.set_cons_zero, List.set_cons_succ]
                            rfl
                          refine norm_ ?_ (J ((B2, d2), (A5, c5), g11) _ ⟨HBW.out, HG11.out, KN.out, HV.out⟩)
                          first | (simp only [putAll, Act.put, List.setIfInBounds_toArray, List.set_cons_zero, List.set_cons_succ]; done) | (simp only [putAll, Act.put, List.setIfInBounds_toArray, List.set_cons_zero, List.set_cons_succ]; rfl)
                      · obtain ⟨g11, hg11⟩ : ∃ g, g = wd.heap.size := ⟨_, rfl⟩
                        obtain ⟨x6, hx⟩ : ∃ x, x = wd.alloc (.cells #[.int .i64 0, .int .i64 0, .slice none 0 0, .slice none 0 0] 44) := ⟨_, rfl⟩
                        have hb : Below wd.heap.size wd x6 := by rw [hx]; exact below_alloc (Below.refl _ _) _
                        have HG11 := Aside0.mk (show wd.heap.size ≤ g11 from by rw [hg11]; exact HBW.out.size)
                        have KN := Aside0.mk (show x6.heap[g11]? = some (.cells #[.int .i64 0, .int .i64 0, .slice none 0 0, .slice none 0 0] 44 (0, 0)) from by rw [hg11, hx]; exact blk_new _ _)
                        refine event_step (by rfl) (v := .pointer (some ⟨g11, 0, none⟩)) (w1 := x6) (by rw [hg11, hx]; first | (go_simp; done) | (go_simp; rfl)) ?_
                        refine hK.out _ _ ⟨(hb.block _ (blk_lt hHeld.1)).trans hHeld.1, pw_cell_below hb hHeld.2⟩ (fun hHeld => ?_)
                        have n_ := Aside0.mk (HQ.out.step hb)
                        clear HQ
                        have HQ := n_
                        clear n_
                        have n_ := Aside0.mk (HBW.out.trans (hb.mono HBW.out.size))
                        clear HBW
                        have HBW := n_
                        clear n_
                        clear hK K hb hx hg11
                        refine norm_ (a' := ?_) ?_ ?_
                        rotate_left
                        · show Act.put _ (some 11) _ = _
                          simp only [Act.put, List.setIfInBounds_toArray, List.set_cons_zero, List.set_cons_succ]
                          rfl
                        refine one_ (i := 7) (N := some 131) (Nw.fl 15 4351) rfl rfl (one_of HT_.out (by kernel_rfl)) (by decide) (fun K hK => ?_)
                        refine Kd.N_lit_step (Kd.int .u8) (w0 := x6) x6.heap.size 5 (by rfl) (N' := 131) rfl (xs := [p.f1]) (inner := [.int .u8 p.f1]) (ok := fun k => x6.heap.size ≤ k) (okp := fun _ => False) ?hr ?hp (fun _ hk => hk.elim) (Nat.le_refl _) (Below.refl _ _) (Nat.le_refl _) (by simp) ?_
                        case hr => first | (go_simp; done) | (go_simp; rfl)
                        case hp => exact Reps.front (c := [.int .u8 p.f1]) (fun _ _ => rfl) rfl (Reps.none _ _) rfl
                        intro v5 x7 hn hb _ _
                        obtain ⟨A5, c5, rfl⟩ := Kd.N_slice hn
                        refine hK.out _ _ ⟨(hb.block _ (blk_lt hHeld.1)).trans hHeld.1, pw_cell_below hb hHeld.2⟩ (fun hHeld => ?_)
                        have n_ := Aside0.mk (HQ.out.step hb)
                        clear HQ
                        have HQ := n_
                        clear n_
                        have n_ := Aside0.mk (HBW.out.trans (hb.mono HBW.out.size))
                        clear HBW
                        have HBW := n_
                        clear n_
                        have n_ := Aside0.mk ((hb.block _ (blk_lt KN.out)).trans KN.out)
                        clear KN
                        have KN := n_
                        clear n_
                        have HN := Aside0.mk hn
                        clear hK K hn hb
                        refine norm_ (a' := ?_) ?_ ?_
                        rotate_left
                        · show Act.put _ (some 131) _ = _
                          simp only [Act.put, List.setIfInBounds_toArray, List.set_cons_zero, List.set_cons_succ]
                          rfl
                        refine one_ (i := 8) (N := some 132) (Nw.fl 15 4607) rfl rfl (one_of HT_.out (by kernel_rfl)) (by decide) (fun K hK => ?_)
                        refine goes_ Try.func23 (by kernel_rfl) rfl #[.agg #[.int .i64 now, .int .i64 sent, .slice B way.length d, .slice Af fs.length cf], .int .i64 tt, .slice A5 [p.f1].length c5] (by rfl) rfl rfl (by (try simp only [List.map_toArray, List.map_cons, List.map_nil, List.append_toArray, List.cons_append, List.nil_append]); first | done | rfl) ?_
                        have hv1 := Kd.V_reads' HQ.out.vw
                        have hv2 := Kd.V_reads' HQ.out.vf
                        refine (sendC hv1.2.2 hv1.2.1 hv2.2.2 hv2.2.1 (Kd.N_reads' HN.out).2.2 (Kd.N_reads' HN.out).2.1 ⟨by have := HM.out.len; omega, by have := HM.out.fl; omega⟩ HM.out.bnd ⟨by simp, fun c hc => by
                          have : c = p.f1 := by simpa using hc
                          rw [this]; exact HP.out.2⟩ HM.out.goes HT2.out).mono ?_
                        clear hv1 hv2
                        rw [← HSW.out]
                        rintro e x8 ⟨B2, d2, rfl, hv, hb⟩
                        refine ⟨_, rfl, hK.out _ _ ⟨(hb.block _ (blk_lt hHeld.1)).trans hHeld.1, pw_cell_below hb hHeld.2⟩ (fun hHeld => ?_)⟩
                        have hvf := HQ.out.fresh hv
                        have hlt11 := blk_lt KN.out
                        have HV0 := Aside0.mk (show Kd.V k25 25 x8 w.heap.size (fun k => ((w.heap.size ≤ k ∧ k ≠ g5) ∧ some k ≠ (u7 : Value).ownBlock) ∧ k ≠ g11) (.slice B2 SW.length d2) SW from Kd.V_mono (Kd.V_lower hv HQ.out.ba.size) (fun k hk => by
                          have h1 : _ ≤ k := hk
                          have h2 := blk_lt HQ.out.k5
                          have h3 := HQ.out.ba.size
                          exact ⟨⟨⟨by omega, by omega⟩, Kd.fresh' (Kd.N_lt HQ.out.vi) k h1⟩, by omega⟩))
                        clear hlt11
                        have n_ := Aside0.mk (HQ.out.step hb)
                        clear HQ
                        have HQ := n_
                        clear n_
                        have n_ := Aside0.mk (HBW.out.trans (hb.mono HBW.out.size))
                        clear HBW
                        have HBW := n_
                        clear n_
                        have n_ := Aside0.mk (Kd.N_below HN.out hb)
                        clear HN
                        have HN := n_
                        clear n_
                        have n_ := Aside0.mk ((hb.block _ (blk_lt KN.out)).trans KN.out)
                        clear KN
                        have KN := n_
                        clear n_
                        have HV := HV0
                        clear HV0 hK K hv hb hvf
                        refine norm_ (a' := ?_) ?_ ?_
                        rotate_left
                        · show Act.put _ (some 132) _ = _
                          simp only [Act.put, List.setIfInBounds_toArray, List.set_cons_zero, List.set_cons_succ]
                          rfl
                        refine pure_ (i := 9) (N := some 123) (v := ?_) (a' := ?_) (Nw.fl 15 5119) rfl rfl (any_of HT_.out (by kernel_rfl)) (fun _ _ _ h => by first | exact h | cases h.1) (Or.inl ⟨by rfl, ?_⟩) ?_ ?_
                        rotate_left
                        · intro w'
                          go_simp
                          with_reducible rfl
                        rotate_left
                        · simp only [Act.put, List.setIfInBounds_toArray, List.set_cons_zero, List.set_cons_succ]
                          rfl
                        refine pure_ (i := 10) (N := some 133) (v := ?_) (a' := ?_) (Nw.fl 15 6143) rfl rfl (any_of HT_.out (by kernel_rfl)) (fun _ _ _ h => by first | exact h | cases h.1) (Or.inl ⟨by rfl, ?_⟩) ?_ ?_
                        rotate_left
                        · intro w'
                          go_simp
                          with_reducible rfl
                        rotate_left
                        · simp only [Act.put, List.setIfInBounds_toArray, List.set_cons_zero, List.set_cons_succ]
                          rfl
                        refine pure_ (i := 11) (N := some 134) (v := ?_) (a' := ?_) (Nw.fl 15 8191) rfl rfl (any_of HT_.out (by kernel_rfl)) (fun _ _ _ h => by first | exact h | cases h.1) (Or.inl ⟨by rfl, ?_⟩) ?_ ?_
                        rotate_left
                        · intro w'
                          go_simp
                          with_reducible rfl
                        rotate_left
                        · simp only [Act.put, List.setIfInBounds_toArray, List.set_cons_zero, List.set_cons_succ]
                          rfl
                        refine norm_ ?_ (J ((B2, d2), (A5, c5), g11) _ ⟨HBW.out, HG11.out, KN.out, HV.out⟩)
                        first | (simp only [putAll, Act.put, List.setIfInBounds_toArray, List.set_cons_zero, List.set_cons_succ]; done) | (simp only [putAll, Act.put, List.setIfInBounds_toArray, List.set_cons_zero, List.set_cons_succ]; rfl)
                  as_aux_lemma =>
                    rintro ⟨⟨B2, d2⟩, ⟨A5, c5⟩, g11⟩ w1 ⟨hb, h11, k11, hv⟩
                    have h11 : wd.heap.size ≤ g11 := h11
                    have HS11 := Aside0.mk (show w.heap.size ≤ g11 ∧ g5 < g11 ∧ wd.heap.size ≤ g11 from ⟨by have := HQ.out.ba.size; omega, by have := blk_lt HQ.out.k5; omega, h11⟩)
                    have K11 := Aside0.mk k11
                    have HV := Aside0.mk hv
                    have HQ1 := Aside0.mk (HQ.out.step hb)
                    have HBB := Aside0.mk hb
                    have hHeld2 : w1.heap[g5]? = some (.cells #[.int .i64 now, .int .i64 sent, .slice B way.length d, .slice Af fs.length cf] 44 (0, 0)) ∧ w1.cell? ⟨(ad.add (i * 2)).block, (ad.add (i * 2)).off + 1, none⟩ = some (.int .u8 p.f1) := ⟨(hb.block _ (blk_lt hHeld.1)).trans hHeld.1, pw_cell_below hb hHeld.2⟩
                    clear hHeld hb h11 k11 hv
                    have hHeld := hHeld2
                    clear hHeld2
                    refine norm_ (a' := ?_) ?_ ?_
                    rotate_left
                    · show putAll _ _ = _
                      simp only [putAll, Act.put, List.setIfInBounds_toArray, List.set_cons_zero, List.set_cons_succ]
                      rfl
                    refine one_ (i := 13) (N := none) (Nw.fl 15 16383) rfl rfl (one_of HT_.out (by kernel_rfl)) (by decide) (fun K hK => ?_)
                    have hst := run_store_run (P := Try.prog) (w := w1) (o := 0) 44 (.agg #[.int .i64 now, .int .i64 (sent + 1), .slice B2 SW.length d2, .slice Af fs.length cf]) [.int .i64 now, .int .i64 (sent + 1), .slice B2 SW.length d2, .slice Af fs.length cf] K11.out rfl (by kernel_rfl) (by simp) (by
                      intro q hq
                      simp only [List.mem_cons, List.not_mem_nil, or_false] at hq
                      rcases hq with rfl | rfl | rfl | rfl <;> rfl)
                    obtain ⟨cur', h3, _, h5⟩ := setCells_row [.int .i64 now, .int .i64 (sent + 1), .slice B2 SW.length d2, .slice Af fs.length cf] 0 w1 _ K11.out (by simp)
                    have hn : cur' = #[.int .i64 now, .int .i64 (sent + 1), .slice B2 SW.length d2, .slice Af fs.length cf] := Array.toList_inj.mp (h5.trans rfl)
                    subst hn
                    obtain ⟨e1, e2, e3, e4⟩ := setCells_same g11 [.int .i64 now, .int .i64 (sent + 1), .slice B2 SW.length d2, .slice Af fs.length cf] 0 w1
                    have hne : ∀ k, k ≠ g11 → (w1.setCells g11 0 [.int .i64 now, .int .i64 (sent + 1), .slice B2 SW.length d2, .slice Af fs.length cf]).heap[k]? = w1.heap[k]? := fun k hk => setCells_far _ 0 k hk
                    have hB9 : Below wd.heap.size wd (w1.setCells g11 0 [.int .i64 now, .int .i64 (sent + 1), .slice B2 SW.length d2, .slice Af fs.length cf]) := HBB.out.trans ⟨e1, e2, e3, Nat.le_of_eq e4.symm, fun k hk => hne k (by have := HS11.out.2.2; omega)⟩
                    refine skip_ (w1 := w1.setCells g11 0 [.int .i64 now, .int .i64 (sent + 1), .slice B2 SW.length d2, .slice Af fs.length cf]) (by rfl) rfl ?_ ?_
                    · exact Qp.run_store hst (by rfl) (by rfl) (by rfl)
                    refine hK.out _ _ ⟨(hne _ (Nat.ne_of_lt HS11.out.2.1)).trans hHeld.1, pw_cell_below (HQ.out.ba.trans (hB9.mono HQ.out.ba.size)) HX.out.2⟩ (fun hHeld => ?_)
                    clear HQ1
                    have HQ1 := Aside0.mk (HQ.out.step hB9)
                    have n_ := Aside0.mk (Kd.V_step HV.out (fun k hk _ => hne k hk.2))
                    clear HV
                    have HV := n_
                    clear n_ K11
                    have K11 := Aside0.mk h3
                    clear hK K hst h5 e1 e2 e3 e4 hB9 h3 hne HQ HBB
                    have HQ := HQ1
                    clear HQ1
                    generalize w1.setCells g11 0 [.int .i64 now, .int .i64 (sent + 1), .slice B2 SW.length d2, .slice Af fs.length cf] = w3 at hHeld HQ HV K11 ⊢
                    refine pure_ (i := 14) (N := some 12) (v := ?_) (a' := ?_) (Nw.fl 15 32767) rfl rfl (any_of HT_.out (by kernel_rfl)) (fun _ _ _ h => by first | exact h | cases h.1) (Or.inl ⟨by rfl, ?_⟩) ?_ ?_
                    rotate_left
                    · intro w'
                      go_simp
                      with_reducible rfl
                    rotate_left
                    · simp only [Act.put, List.setIfInBounds_toArray, List.set_cons_zero, List.set_cons_succ]
                      rfl
                    clear hHeld
                    refine done_ (done_of HT_.out (by kernel_rfl)) ?_
                    have hw4 : wrap64 (sent + 1) = sent + 1 := w64_in (by have := HM.out.s0; omega) (by have := HM.out.sm; have := HM.out.n0; have := HI.out; omega)
                    have q0 : w3.cell? ⟨g5, 0, none⟩ = some (.int .i64 now) := blk_cell HQ.out.k5 0
                    have q1 : w3.cell? ⟨g5, 1, none⟩ = some (.int .i64 sent) := blk_cell HQ.out.k5 1
                    have q2 : w3.cell? ⟨g5, 2, none⟩ = some (.slice B way.length d) := blk_cell HQ.out.k5 2
                    have q3 : w3.cell? ⟨g5, 3, none⟩ = some (.slice Af fs.length cf) := blk_cell HQ.out.k5 3
                    have p0 : w3.cell? ⟨g11, 0, none⟩ = some (.int .i64 now) := blk_cell K11.out 0
                    have p1 : w3.cell? ⟨g11, 1, none⟩ = some (.int .i64 (sent + 1)) := blk_cell K11.out 1
                    have p2 : w3.cell? ⟨g11, 2, none⟩ = some (.slice B2 SW.length d2) := blk_cell K11.out 2
                    have p3 : w3.cell? ⟨g11, 3, none⟩ = some (.slice Af fs.length cf) := blk_cell K11.out 3
                    go_wp2_with ((with_reducible refine gate_store (t := 44) (p := 5) rfl ?_); refine Aside0.out (p := _) ?_)
                    refine Aside0.mk ?_
                    refine store_seg [.int .i64 now, .int .i64 (sent + 1), .slice B2 SW.length d2, .slice Af fs.length cf] #[.int .i64 now, .int .i64 (sent + 1), .slice B2 SW.length d2, .slice Af fs.length cf] HQ.out.k5 rfl rfl rfl rfl rfl rfl (by kernel_rfl) (by simp) (by
                      intro q hq
                      simp only [List.mem_cons, List.not_mem_nil, or_false] at hq
                      first | (rcases hq with rfl | rfl | rfl | rfl <;> rfl) | (subst hq; rfl)) rfl ?_
                    intro w5 hk hne hB
                    clear q0 q1 q2 q3
                    clear p0 p1 p2 p3
                    have HQ5 := Aside0.mk (HQ.out.put5 (Kd.V_mono HV.out (fun k hk => hk.1)) hk hne hB)
                    have HM5 := Aside0.mk (show MAt fs wb SW now (sent + 1) (i + 1) from by rw [HWB.out, HWA.out, HSW.out, HF.out]; exact HM.out.send HI.out HT2.out HP.out.2)
                    have HJ := Aside0.mk (up1 i (by have := HI.out; omega))
                    have HN := Aside0.mk (show k1 + (i + 1) = l.length + 50 ∧ MAt fs wb SW now (sent + 1) (i + 1) ∧ GAt w w5 g5 fs wb SW now (sent + 1) u7 B2 d2 Af cf from ⟨by have := HK.out; omega, HM5.out, HQ5.out⟩)
                    clear hk hne hB HQ HQ5 HM5 HV K11 HS11 HWB HWA HSW HF HM HK HT2 HP HX
                    go_wp2
                    go_roundg k1
                    case measure => exact Nat.lt_succ_self _
                    case rel => exact ⟨i + 1, wb, SW, now, sent + 1, B2, d2, by first | exact congrArg (Value.int .i64) HJ.out | rfl, HN⟩
        | false =>
          as_aux_lemma =>
            clear HPP HBB
            generalize wc = wq at HQ ⊢
            obtain ⟨A7, c7, rfl⟩ := Kd.N_slice HQ.out.vi
            have q0 : wq.cell? ⟨g5, 0, none⟩ = some (.int .i64 now) := blk_cell HQ.out.k5 0
            have q1 : wq.cell? ⟨g5, 1, none⟩ = some (.int .i64 sent) := blk_cell HQ.out.k5 1
            have q2 : wq.cell? ⟨g5, 2, none⟩ = some (.slice B way.length d) := blk_cell HQ.out.k5 2
            have q3 : wq.cell? ⟨g5, 3, none⟩ = some (.slice Af fs.length cf) := blk_cell HQ.out.k5 3
            go_wp2_with ((with_reducible refine gate_dst (N := 155) rfl ?_); refine Aside0.out (p := _) ?_)
            refine Aside0.mk ?_
            refine goesL_ (some 155) rfl rfl Try.func24 (by kernel_rfl) rfl #[.agg #[.int .i64 now, .int .i64 sent, .slice B way.length d, .slice Af fs.length cf]] rfl (by (try simp only [List.map_toArray, List.map_cons, List.map_nil, List.append_toArray, List.cons_append, List.nil_append]); first | done | rfl) ?_
            clear q0 q1 q2 q3
            have hv1 := Kd.V_reads' HQ.out.vw
            have hv2 := Kd.V_reads' HQ.out.vf
            refine (tickC hv1.2.2 hv1.2.1 hv2.2.2 hv2.2.1 ⟨by have := HM.out.len; omega, by have := HM.out.fl; omega⟩ HM.out.bnd HM.out.n0 HM.out.goes).mono ?_
            clear hv1 hv2
            rintro e w6 ⟨B2, d2, B3, d3, rfl, hv, hv3, hb⟩
            refine ⟨_, rfl, ?_⟩
            obtain ⟨R, hR⟩ : ∃ t, t = dueR way (now + 1) := ⟨_, rfl⟩
            obtain ⟨D, hD⟩ : ∃ t, t = dueD way (now + 1) := ⟨_, rfl⟩
            rw [← hR] at hv ⊢
            rw [← hD] at hv3 ⊢
            have HMT := Aside0.mk (show MAt fs want R (now + 1) sent (i + 1) from hR ▸ HM.out.tick HI.out)
            have HDL := Aside0.mk (show (want.filter (fun x => decide (x.f0 = now + 1))).length = D.length ∧ D.length ≤ 260 ∧ want.length ≤ 260 from ⟨by rw [hD]; exact HM.out.dueP.length_eq.symm, by have h1 := due_split way (now + 1); rw [← hD] at h1; have h2 := HM.out.len; omega, by have := HM.out.ln; have := HI.out; omega⟩)
            have HDA := Aside0.mk (show ∀ y ∈ D, (want.filter (fun x => eqL x y)).length = (D.filter (fun x => eqL x y)).length ∧ y.f0 = now + 1 from fun y hy => by rw [hD] at hy ⊢; exact ⟨HM.out.alike hy, HM.out.dueAt hy⟩)
            clear hR hD
            have HVR := Aside0.mk (HQ.out.fresh hv)
            have HVD := Aside0.mk (HQ.out.fresh hv3)
            have n_ := Aside0.mk (HQ.out.step hb)
            clear HQ
            have HQ := n_
            clear n_ hv hv3 hb
            go_wp2_with ((with_reducible refine gate_dst (N := 13) rfl ?_); refine Aside0.out (p := _) ?_)
            refine Aside0.mk ?_
            refine box_event (by rfl) (N := 13) rfl (cs := #[.int .i64 0, .int .i64 0, .slice none 0 0, .slice none 0 0]) (t := 44) ?hr ?_
            case hr => first | (go_simp; done) | (go_simp; rfl)
            intro g13 hg13 w7 kg13 bg13
            have G13 := Aside0.mk (And.intro hg13 (And.intro kg13 bg13))
            clear hg13 kg13 bg13
            go_wp2_with ((with_reducible refine gate_store (t := 44) (p := 13) rfl ?_); refine Aside0.out (p := _) ?_)
            refine Aside0.mk ?_
            refine store_seg [.int .i64 (now + 1), .int .i64 sent, .slice B2 R.length d2, .slice Af fs.length cf] #[.int .i64 (now + 1), .int .i64 sent, .slice B2 R.length d2, .slice Af fs.length cf] G13.out.2.1 rfl rfl rfl rfl rfl rfl (by kernel_rfl) (by simp) (by
              intro q hq
              simp only [List.mem_cons, List.not_mem_nil, or_false] at hq
              first | (rcases hq with rfl | rfl | rfl | rfl <;> rfl) | (subst hq; rfl)) rfl ?_
            intro w8 hk hne hB
            have hb := hB _ _ (Nat.le_of_eq G13.out.1.symm) G13.out.2.2
            have n_ := Aside0.mk (HQ.out.step hb)
            clear HQ
            have HQ := n_
            clear n_
            have n_ := Aside0.mk (Kd.V_below HVR.out hb)
            clear HVR
            have HVR := n_
            clear n_
            have n_ := Aside0.mk (Kd.V_below HVD.out hb)
            clear HVD
            have HVD := n_
            clear n_
            have K13 := Aside0.mk hk
            clear hk hne hB hb G13
            have HWC := Aside0.mk (Kd.N_reads' HQ.out.vi)
            have HDC := Aside0.mk (Kd.V_reads' HVD.out)
            have hw1 : wrap64 (now + 1) = now + 1 := w64_in (by have := HM.out.n0; omega) (by have := HM.out.sm; have := HM.out.s0; have := HI.out; omega)
            have q0 : w8.cell? ⟨g5, 0, none⟩ = some (.int .i64 now) := blk_cell HQ.out.k5 0
            have q1 : w8.cell? ⟨g5, 1, none⟩ = some (.int .i64 sent) := blk_cell HQ.out.k5 1
            have q2 : w8.cell? ⟨g5, 2, none⟩ = some (.slice B way.length d) := blk_cell HQ.out.k5 2
            have q3 : w8.cell? ⟨g5, 3, none⟩ = some (.slice Af fs.length cf) := blk_cell HQ.out.k5 3
            have p0 : w8.cell? ⟨g13, 0, none⟩ = some (.int .i64 (now + 1)) := blk_cell K13.out 0
            have p1 : w8.cell? ⟨g13, 1, none⟩ = some (.int .i64 sent) := blk_cell K13.out 1
            have p2 : w8.cell? ⟨g13, 2, none⟩ = some (.slice B2 R.length d2) := blk_cell K13.out 2
            have p3 : w8.cell? ⟨g13, 3, none⟩ = some (.slice Af fs.length cf) := blk_cell K13.out 3
            go_wp2
            clear q0 q1 q2 q3
            clear p0 p1 p2 p3
            go_loopg [16, 17] want.length (fun kq v16 v17 w' => ∃ k c : Nat, v16 = .int .i64 c ∧ v17 = .int .i64 k ∧ Aside0 (kq + k = want.length ∧ c = cntL (fun x => decide (x.f0 = now + 1)) want k ∧ Below w8.heap.size w8 w'))
            case atStart => exact ⟨0, 0, rfl, rfl, ⟨by omega, rfl, Below.refl _ _⟩⟩
            case round =>
              obtain ⟨k, c, rfl, rfl, HR3⟩ := hrel
              have HK3 := Aside0.mk HR3.out.1
              have HC3 := Aside0.mk HR3.out.2.1
              have HB3 := Aside0.mk HR3.out.2.2
              clear HR3
              by_cases hlk : k < want.length
              · cases gk with
                | zero => exact absurd HK3.out (by omega)
                | succ k2 =>
                as_aux_lemma =>
                  have b7 : decide ((k : Int) < (want.length : Int)) = true := decide_eq_true (by omega)
                  have b8 : decide (k < want.length) = true := decide_eq_true hlk
                  obtain ⟨x, hxx⟩ : ∃ x, x = want.getD k z25 := ⟨_, rfl⟩
                  obtain ⟨a7, A9, c9, e, hx0, hx1, hx2, hx3, hxl, hxi⟩ := at_T25 (Kd.C_below HWC.out.2.2 HB3.out) (k : Int) (by omega) (by omega)
                  simp only [Int.toNat_natCast] at hx0 hx1 hx2 hx3
                  subst e
                  have hxe : rd_T25 want (k : Int) = want.getD k z25 := by unfold rd_T25; rw [Int.toNat_natCast]
                  rw [hxe, ← hxx] at hx0 hx1 hx2 hx3 hxl hxi
                  clear hxe
                  have HLK := Aside0.mk hlk
                  have HXX := Aside0.mk hxx
                  clear hx1 hx2 hx3 hxl hxi hxx
                  have hk13 := (HB3.out.block _ (blk_lt K13.out)).trans K13.out
                  go_wp2
                  refine start_ (n := 8) (S := fun w' => w'.heap[g13]? = some (.cells #[.int .i64 (now + 1), .int .i64 sent, .slice B2 R.length d2, .slice Af fs.length cf] 44 (0, 0)) ∧ w'.cell? (a7.add (k * 4)) = some (.int .i64 x.f0)) (ds := []) (Nw.fl 8 0) (by kernel_rfl) rfl (by kernel_rfl) ⟨hk13, hx0⟩ (fun hHeld => ?_)
                  refine with_tabW nf32_tab nf32_bits (fun HT_ HW_ => ?_)
                  clear hx0 hk13
                  have n_ := Aside0.mk (below_drew HB3.out)
                  clear HB3
                  have HB3 := n_
                  clear n_
                  generalize wr.drew = wd at HB3 hHeld ⊢
                  refine pure_ (i := 0) (N := some 182) (v := ?_) (a' := ?_) (Nw.fl 8 1) rfl rfl (any_of HT_.out (by kernel_rfl)) (fun _ _ _ h => by first | exact h | cases h.1) (Or.inl ⟨by rfl, ?_⟩) ?_ ?_
                  rotate_left
                  · intro w'
                    go_simp
                    with_reducible rfl
                  rotate_left
                  · simp only [Act.put, List.setIfInBounds_toArray, List.set_cons_zero, List.set_cons_succ]
                    rfl
                  refine pure_ (i := 1) (N := some 183) (v := ?_) (a' := ?_) (Nw.fl 8 3) rfl rfl (any_of HT_.out (by kernel_rfl)) (fun _ _ _ h => by first | exact h | cases h.1) (Or.inl ⟨by rfl, ?_⟩) ?_ ?_
                  rotate_left
                  · intro w'
                    go_simp
                    with_reducible rfl
                  rotate_left
                  · simp only [Act.put, List.setIfInBounds_toArray, List.set_cons_zero, List.set_cons_succ]
                    rfl
                  refine pure_ (i := 2) (N := some 184) (v := ?_) (a' := ?_) (Nw.fl 8 7) rfl rfl (any_of HT_.out (by kernel_rfl)) (fun _ _ _ h => by first | exact h | cases h.1) (Or.inl ⟨by rfl, ?_⟩) ?_ ?_
                  rotate_left
                  · intro w'
                    go_simp
                    first | with_reducible rfl | rw [if_pos HLK.out]
                  rotate_left
                  · simp only [Act.put, List.setIfInBounds_toArray, List.set_cons_zero, List.set_cons_succ]
                    rfl
                  refine pure_ (i := 3) (N := some 185) (v := ?_) (a' := ?_) (Nw.fl 8 15) rfl rfl (any_of HT_.out (by kernel_rfl)) (fun _ _ _ h => by first | exact h | cases h.1) (Or.inl ⟨by rfl, ?_⟩) ?_ ?_
                  rotate_left
                  · intro w'
                    go_simp
                    with_reducible rfl
                  rotate_left
                  · simp only [Act.put, List.setIfInBounds_toArray, List.set_cons_zero, List.set_cons_succ]
                    rfl
                  refine take_ (i := 4) (N := some 186) (v := ?_) (a' := ?_) (Nw.fl 8 31) rfl rfl (take_ofW HT_.out HW_.out (by kernel_rfl)) (fun _ _ _ h => by first | exact h | cases h.1) (Or.inl ⟨by rfl, ?_⟩) hHeld ?_ ?_
                  rotate_left
                  · rintro w' ⟨s0, s1⟩

                    go_simp
                    with_reducible rfl
                  rotate_left
                  · simp only [Act.put, List.setIfInBounds_toArray, List.set_cons_zero, List.set_cons_succ]
                    rfl
                  refine pure_ (i := 5) (N := some 187) (v := ?_) (a' := ?_) (Nw.fl 8 63) rfl rfl (any_of HT_.out (by kernel_rfl)) (fun _ _ _ h => by first | exact h | cases h.1) (Or.inl ⟨by rfl, ?_⟩) ?_ ?_
                  rotate_left
                  · intro w'
                    go_simp
                    with_reducible rfl
                  rotate_left
                  · simp only [Act.put, List.setIfInBounds_toArray, List.set_cons_zero, List.set_cons_succ]
                    rfl
                  refine take_ (i := 6) (N := some 188) (v := ?_) (a' := ?_) (Nw.fl 8 127) rfl rfl (take_ofW HT_.out HW_.out (by kernel_rfl)) (fun _ _ _ h => by first | exact h | cases h.1) (Or.inl ⟨by rfl, ?_⟩) hHeld ?_ ?_
                  rotate_left
                  · rintro w' ⟨s0, s1⟩
                    have q0 : w'.cell? ⟨g13, 0, none⟩ = some (.int .i64 (now + 1)) := blk_cell s0 0
                    have q1 : w'.cell? ⟨g13, 1, none⟩ = some (.int .i64 sent) := blk_cell s0 1
                    have q2 : w'.cell? ⟨g13, 2, none⟩ = some (.slice B2 R.length d2) := blk_cell s0 2
                    have q3 : w'.cell? ⟨g13, 3, none⟩ = some (.slice Af fs.length cf) := blk_cell s0 3
                    go_simp
                    with_reducible rfl
                  rotate_left
                  · simp only [Act.put, List.setIfInBounds_toArray, List.set_cons_zero, List.set_cons_succ]
                    rfl
                  refine pure_ (i := 7) (N := some 189) (v := ?_) (a' := ?_) (Nw.fl 8 255) rfl rfl (any_of HT_.out (by kernel_rfl)) (fun _ _ _ h => by first | exact h | cases h.1) (Or.inl ⟨by rfl, ?_⟩) ?_ ?_
                  rotate_left
                  · intro w'
                    go_simp
                    with_reducible rfl
                  rotate_left
                  · simp only [Act.put, List.setIfInBounds_toArray, List.set_cons_zero, List.set_cons_succ]
                    rfl
                  refine done_ (done_of HT_.out (by kernel_rfl)) ?_
                  clear hHeld HT_ HW_
                  have HJ3 := Aside0.mk (up1 k (by have := HDL.out.2.2; omega))
                  have HJC := Aside0.mk (up1 c (by have h1 := cnt_le (fun x => decide (x.f0 = now + 1)) want k; have := HC3.out; have := HDL.out.2.2; omega))
                  by_cases he : x.f0 = now + 1
                  · have b9 : decide (x.f0 = now + 1) = true := decide_eq_true he
                    have HN3 := Aside0.mk (show k2 + (k + 1) = want.length ∧ c + 1 = cntL (fun x => decide (x.f0 = now + 1)) want (k + 1) ∧ Below w8.heap.size w8 wd from ⟨by have := HK3.out; omega, by rw [cnt_yes HLK.out (by rw [← HXX.out]; exact b9), HC3.out], HB3.out⟩)
                    go_wp2
                    go_roundg k2
                    case measure => exact Nat.lt_succ_self _
                    case rel => exact ⟨k + 1, c + 1, by first | exact congrArg (Value.int .i64) HJC.out | rfl, by first | exact congrArg (Value.int .i64) HJ3.out | rfl, HN3⟩
                  · have b9 : decide (x.f0 = now + 1) = false := decide_eq_false he
                    have HN3 := Aside0.mk (show k2 + (k + 1) = want.length ∧ c = cntL (fun x => decide (x.f0 = now + 1)) want (k + 1) ∧ Below w8.heap.size w8 wd from ⟨by have := HK3.out; omega, by rw [cnt_no HLK.out (by rw [← HXX.out]; exact b9), HC3.out], HB3.out⟩)
                    go_wp2
                    go_roundg k2
                    case measure => exact Nat.lt_succ_self _
                    case rel => exact ⟨k + 1, c, rfl, by first | exact congrArg (Value.int .i64) HJ3.out | rfl, HN3⟩
              · have b7 : decide ((k : Int) < (want.length : Int)) = false := decide_eq_false (by omega)
                have b8 : decide (k < want.length) = false := decide_eq_false hlk
                have hc : c = D.length := by
                  rw [HC3.out, show k = want.length from by have := HK3.out; omega, cnt_all]
                  exact HDL.out.1
                clear HC3
                subst hc
                have HB4 := HB3
                clear HB3
                go_wp2
                go_loopg [18] D.length (fun kq v18 w' => ∃ k : Nat, v18 = .int .i64 k ∧ Aside0 (kq + k = D.length ∧ Below w8.heap.size w8 w'))
                case atStart => exact ⟨0, rfl, ⟨by omega, HB4.out⟩⟩
                case round =>
                  clear HB4 hlk
                  obtain ⟨k, rfl, HR4⟩ := hrel
                  have HK4 := Aside0.mk HR4.out.1
                  have HB4 := Aside0.mk HR4.out.2
                  clear HR4
                  by_cases hlk : k < D.length
                  · cases gk with
                    | zero => exact absurd HK4.out (by omega)
                    | succ k2 =>
                    as_aux_lemma =>
                      have b7 : decide ((k : Int) < (D.length : Int)) = true := decide_eq_true (by omega)
                      have b8 : decide (k < D.length) = true := decide_eq_true hlk
                      obtain ⟨y, hyy⟩ : ∃ y, y = D.getD k z25 := ⟨_, rfl⟩
                      obtain ⟨a8, A10, c10, e, hy0, hy1, hy2, hy3, hyl, hyi⟩ := at_T25 (HDC.out.2.2) (k : Int) (by omega) (by omega)
                      simp only [Int.toNat_natCast] at hy0 hy1 hy2 hy3
                      first | subst e | (injection e with e; subst e)
                      have hxe : rd_T25 D (k : Int) = D.getD k z25 := by unfold rd_T25; rw [Int.toNat_natCast]
                      rw [hxe, ← hyy] at hy0 hy1 hy2 hy3 hyl hyi
                      clear hxe
                      have HYC := Aside0.mk (And.intro hy0 (And.intro hy1 (And.intro hy2 (And.intro hy3 (And.intro hyl hyi)))))
                      clear hy0 hy1 hy2 hy3 hyl hyi
                      have HLK := Aside0.mk hlk
                      have HYD := Aside0.mk (HDA.out y (by rw [hyy, Hp.getD_lt _ _ _ hlk]; exact List.getElem_mem _))
                      clear hyy hlk
                      go_wp2
                      go_loopg [19, 20] want.length (fun kq v19 v20 w' => ∃ j c : Nat, v19 = .int .i64 c ∧ v20 = .int .i64 j ∧ Aside0 (kq + j = want.length ∧ c = cntL (fun z => eqL z y) want j ∧ Below w8.heap.size w8 w'))
                      case atStart => exact ⟨0, 0, rfl, rfl, ⟨by omega, rfl, HB4.out⟩⟩
                      case round =>
                        obtain ⟨j, c43, rfl, rfl, HR5⟩ := hrel
                        have HK5 := Aside0.mk HR5.out.1
                        have HC5 := Aside0.mk HR5.out.2.1
                        have HB5 := Aside0.mk HR5.out.2.2
                        clear HR5 HB4
                        by_cases hlj : j < want.length
                        · cases gk with
                          | zero => exact absurd HK5.out (by omega)
                          | succ k3 =>
                          as_aux_lemma =>
                            have b9 : decide ((j : Int) < (want.length : Int)) = true := decide_eq_true (by omega)
                            have b10 : decide (j < want.length) = true := decide_eq_true hlj
                            obtain ⟨x, hxx⟩ : ∃ x, x = want.getD j z25 := ⟨_, rfl⟩
                            obtain ⟨a7, A9, c9, e, hx0, hx1, hx2, hx3, hxl, hxi⟩ := at_T25 (HWC.out.2.2) (j : Int) (by omega) (by omega)
                            simp only [Int.toNat_natCast] at hx0 hx1 hx2 hx3
                            first | subst e | (injection e with e; subst e)
                            have hxe : rd_T25 want (j : Int) = want.getD j z25 := by unfold rd_T25; rw [Int.toNat_natCast]
                            rw [hxe, ← hxx] at hx0 hx1 hx2 hx3 hxl hxi
                            clear hxe
                            have HXC := Aside0.mk (And.intro hx0 (And.intro hx1 (And.intro hx2 (And.intro hx3 (And.intro hxl hxi)))))
                            clear hx0 hx1 hx2 hx3 hxl hxi
                            have HLJ := Aside0.mk hlj
                            have HXX := Aside0.mk hxx
                            clear hxx hlj
                            go_wp2
                            refine start_ (n := 9) (S := fun w' => w'.cell? (a7.add (j * 4)) = some (.int .i64 x.f0) ∧ w'.cell? ⟨(a7.add (j * 4)).block, (a7.add (j * 4)).off + 1, none⟩ = some (.int .i64 x.f1) ∧ w'.cell? ⟨(a7.add (j * 4)).block, (a7.add (j * 4)).off + 2, none⟩ = some (.int .i64 x.f2) ∧ w'.cell? ⟨(a7.add (j * 4)).block, (a7.add (j * 4)).off + 3, none⟩ = some (.slice A9 x.f3.length c9) ∧ w'.cell? (a8.add (k * 4)) = some (.int .i64 y.f0) ∧ w'.cell? ⟨(a8.add (k * 4)).block, (a8.add (k * 4)).off + 1, none⟩ = some (.int .i64 y.f1) ∧ w'.cell? ⟨(a8.add (k * 4)).block, (a8.add (k * 4)).off + 2, none⟩ = some (.int .i64 y.f2) ∧ w'.cell? ⟨(a8.add (k * 4)).block, (a8.add (k * 4)).off + 3, none⟩ = some (.slice A10 y.f3.length c10)) (ds := []) (Nw.fl 9 0) (by kernel_rfl) rfl (by kernel_rfl) ⟨pw_cell_below HB5.out HXC.out.1, pw_cell_below HB5.out HXC.out.2.1, pw_cell_below HB5.out HXC.out.2.2.1, pw_cell_below HB5.out HXC.out.2.2.2.1, pw_cell_below HB5.out HYC.out.1, pw_cell_below HB5.out HYC.out.2.1, pw_cell_below HB5.out HYC.out.2.2.1, pw_cell_below HB5.out HYC.out.2.2.2.1⟩ (fun hHeld => ?_)
                            refine with_tabW nf43_tab nf43_bits (fun HT_ HW_ => ?_)
                            have n_ := Aside0.mk (below_drew HB5.out)
                            clear HB5
                            have HB5 := n_
                            clear n_
                            generalize wr.drew = wd at HB5 hHeld ⊢
                            refine pure_ (i := 0) (N := some 208) (v := ?_) (a' := ?_) (Nw.fl 9 1) rfl rfl (any_of HT_.out (by kernel_rfl)) (fun _ _ _ h => by first | exact h | cases h.1) (Or.inl ⟨by rfl, ?_⟩) ?_ ?_
                            rotate_left
                            · intro w'
                              go_simp
                              with_reducible rfl
                            rotate_left
                            · simp only [Act.put, List.setIfInBounds_toArray, List.set_cons_zero, List.set_cons_succ]
                              rfl
                            refine pure_ (i := 1) (N := some 209) (v := ?_) (a' := ?_) (Nw.fl 9 3) rfl rfl (any_of HT_.out (by kernel_rfl)) (fun _ _ _ h => by first | exact h | cases h.1) (Or.inl ⟨by rfl, ?_⟩) ?_ ?_
                            rotate_left
                            · intro w'
                              go_simp
                              with_reducible rfl
                            rotate_left
                            · simp only [Act.put, List.setIfInBounds_toArray, List.set_cons_zero, List.set_cons_succ]
                              rfl
                            refine pure_ (i := 2) (N := some 210) (v := ?_) (a' := ?_) (Nw.fl 9 7) rfl rfl (any_of HT_.out (by kernel_rfl)) (fun _ _ _ h => by first | exact h | cases h.1) (Or.inl ⟨by rfl, ?_⟩) ?_ ?_
                            rotate_left
                            · intro w'
                              go_simp
                              first | with_reducible rfl | rw [if_pos HLJ.out]
                            rotate_left
                            · simp only [Act.put, List.setIfInBounds_toArray, List.set_cons_zero, List.set_cons_succ]
                              rfl
                            refine take_ (i := 3) (N := some 211) (v := ?_) (a' := ?_) (Nw.fl 9 15) rfl rfl (take_ofW HT_.out HW_.out (by kernel_rfl)) (fun _ _ _ h => by first | exact h | cases h.1) (Or.inl ⟨by rfl, ?_⟩) hHeld ?_ ?_
                            rotate_left
                            · rintro w' ⟨s0, s1, s2, s3, s4, s5, s6, s7⟩

                              go_simp
                              with_reducible rfl
                            rotate_left
                            · simp only [Act.put, List.setIfInBounds_toArray, List.set_cons_zero, List.set_cons_succ]
                              rfl
                            refine pure_ (i := 4) (N := some 212) (v := ?_) (a' := ?_) (Nw.fl 9 31) rfl rfl (any_of HT_.out (by kernel_rfl)) (fun _ _ _ h => by first | exact h | cases h.1) (Or.inl ⟨by rfl, ?_⟩) ?_ ?_
                            rotate_left
                            · intro w'
                              go_simp
                              with_reducible rfl
                            rotate_left
                            · simp only [Act.put, List.setIfInBounds_toArray, List.set_cons_zero, List.set_cons_succ]
                              rfl
                            refine pure_ (i := 5) (N := some 213) (v := ?_) (a' := ?_) (Nw.fl 9 63) rfl rfl (any_of HT_.out (by kernel_rfl)) (fun _ _ _ h => by first | exact h | cases h.1) (Or.inl ⟨by rfl, ?_⟩) ?_ ?_
                            rotate_left
                            · intro w'
                              go_simp
                              with_reducible rfl
                            rotate_left
                            · simp only [Act.put, List.setIfInBounds_toArray, List.set_cons_zero, List.set_cons_succ]
                              rfl
                            refine pure_ (i := 6) (N := some 214) (v := ?_) (a' := ?_) (Nw.fl 9 127) rfl rfl (any_of HT_.out (by kernel_rfl)) (fun _ _ _ h => by first | exact h | cases h.1) (Or.inl ⟨by rfl, ?_⟩) ?_ ?_
                            rotate_left
                            · intro w'
                              go_simp
                              first | with_reducible rfl | rw [if_pos HLK.out]
                            rotate_left
                            · simp only [Act.put, List.setIfInBounds_toArray, List.set_cons_zero, List.set_cons_succ]
                              rfl
                            refine take_ (i := 7) (N := some 215) (v := ?_) (a' := ?_) (Nw.fl 9 255) rfl rfl (take_ofW HT_.out HW_.out (by kernel_rfl)) (fun _ _ _ h => by first | exact h | cases h.1) (Or.inl ⟨by rfl, ?_⟩) hHeld ?_ ?_
                            rotate_left
                            · rintro w' ⟨s0, s1, s2, s3, s4, s5, s6, s7⟩

                              go_simp
                              with_reducible rfl
                            rotate_left
                            · simp only [Act.put, List.setIfInBounds_toArray, List.set_cons_zero, List.set_cons_succ]
                              rfl
                            refine one_ (i := 8) (N := some 216) (Nw.fl 9 511) rfl rfl (one_of HT_.out (by kernel_rfl)) (by decide) (fun K hK => ?_)
                            refine goes_ Try.func20 (by kernel_rfl) rfl #[.agg #[.int .i64 x.f0, .int .i64 x.f1, .int .i64 x.f2, .slice A9 x.f3.length c9], .agg #[.int .i64 y.f0, .int .i64 y.f1, .int .i64 y.f2, .slice A10 y.f3.length c10]] (by rfl) rfl rfl (by (try simp only [List.map_toArray, List.map_cons, List.map_nil, List.append_toArray, List.cons_append, List.nil_append]); first | done | rfl) ?_
                            refine (one.calls wd x y A9 c9 A10 c10 (Kd.C_below HXC.out.2.2.2.2.2 HB5.out) HXC.out.2.2.2.2.1 (Kd.C_below HYC.out.2.2.2.2.2 HB5.out) HYC.out.2.2.2.2.1).mono ?_
                            rintro e w9 ⟨rfl, hb⟩
                            refine ⟨_, rfl, hK.out _ _ ⟨pw_cell_below hb hHeld.1, pw_cell_below hb hHeld.2.1, pw_cell_below hb hHeld.2.2.1, pw_cell_below hb hHeld.2.2.2.1, pw_cell_below hb hHeld.2.2.2.2.1, pw_cell_below hb hHeld.2.2.2.2.2.1, pw_cell_below hb hHeld.2.2.2.2.2.2.1, pw_cell_below hb hHeld.2.2.2.2.2.2.2⟩ (fun hHeld => ?_)⟩
                            have n_ := Aside0.mk (HB5.out.trans (hb.mono HB5.out.size))
                            clear HB5
                            have HB5 := n_
                            clear n_
                            clear hK K hb
                            refine norm_ (a' := ?_) ?_ ?_
                            rotate_left
                            · show Act.put _ (some 216) _ = _
                              simp only [Act.put, List.setIfInBounds_toArray, List.set_cons_zero, List.set_cons_succ]
                              rfl
                            refine done_ (done_of HT_.out (by kernel_rfl)) ?_
                            clear hHeld HT_ HW_
                            have HJ5 := Aside0.mk (up1 j (by have := HLJ.out; have := HDL.out.2; omega))
                            have HJC := Aside0.mk (up1 c43 (by have h1 := cnt_le (fun z => eqL z y) want j; have := HC5.out; have := HLJ.out; have := HDL.out.2; omega))
                            cases he : eqL x y with
                            | true =>
                              have HN5 := Aside0.mk (show k3 + (j + 1) = want.length ∧ c43 + 1 = cntL (fun z => eqL z y) want (j + 1) ∧ Below w8.heap.size w8 w9 from ⟨by have := HK5.out; omega, by rw [cnt_yes HLJ.out (by rw [← HXX.out]; exact he), HC5.out], HB5.out⟩)
                              clear he
                              go_wp2
                              go_roundg k3
                              case measure => exact Nat.lt_succ_self _
                              case rel => exact ⟨j + 1, c43 + 1, by first | exact congrArg (Value.int .i64) HJC.out | rfl, by first | exact congrArg (Value.int .i64) HJ5.out | rfl, HN5⟩
                            | false =>
                              have HN5 := Aside0.mk (show k3 + (j + 1) = want.length ∧ c43 = cntL (fun z => eqL z y) want (j + 1) ∧ Below w8.heap.size w8 w9 from ⟨by have := HK5.out; omega, by rw [cnt_no HLJ.out (by rw [← HXX.out]; exact he), HC5.out], HB5.out⟩)
                              clear he
                              go_wp2
                              go_roundg k3
                              case measure => exact Nat.lt_succ_self _
                              case rel => exact ⟨j + 1, c43, rfl, by first | exact congrArg (Value.int .i64) HJ5.out | rfl, HN5⟩
                        · have b9 : decide ((j : Int) < (want.length : Int)) = false := decide_eq_false (by omega)
                          have b10 : decide (j < want.length) = false := decide_eq_false hlj
                          have HF43 := Aside0.mk (show c43 = (want.filter (fun z => eqL z y)).length from by rw [HC5.out, show j = want.length from by have := HK5.out; omega, cnt_all])
                          have HB4 := HB5
                          clear HC5 HK5 HB5 hlj
                          go_wp2
                          clear b9 b10
                          go_loopg [21, 22] D.length (fun kq v21 v22 w' => ∃ j c : Nat, v21 = .int .i64 c ∧ v22 = .int .i64 j ∧ Aside0 (kq + j = D.length ∧ c = cntL (fun z => eqL z y) D j ∧ Below w8.heap.size w8 w'))
                          case atStart => exact ⟨0, 0, rfl, rfl, ⟨by omega, rfl, HB4.out⟩⟩
                          case round =>
                            obtain ⟨j, c49, rfl, rfl, HR5⟩ := hrel
                            have HK5 := Aside0.mk HR5.out.1
                            have HC5 := Aside0.mk HR5.out.2.1
                            have HB5 := Aside0.mk HR5.out.2.2
                            clear HR5 HB4
                            by_cases hlj : j < D.length
                            · cases gk with
                              | zero => exact absurd HK5.out (by omega)
                              | succ k3 =>
                              as_aux_lemma =>
                                have b9 : decide ((j : Int) < (D.length : Int)) = true := decide_eq_true (by omega)
                                have b10 : decide (j < D.length) = true := decide_eq_true hlj
                                obtain ⟨x, hxx⟩ : ∃ x, x = D.getD j z25 := ⟨_, rfl⟩
                                obtain ⟨a7, A9, c9, e, hx0, hx1, hx2, hx3, hxl, hxi⟩ := at_T25 (HDC.out.2.2) (j : Int) (by omega) (by omega)
                                simp only [Int.toNat_natCast] at hx0 hx1 hx2 hx3
                                first | subst e | (injection e with e; subst e)
                                have hxe : rd_T25 D (j : Int) = D.getD j z25 := by unfold rd_T25; rw [Int.toNat_natCast]
                                rw [hxe, ← hxx] at hx0 hx1 hx2 hx3 hxl hxi
                                clear hxe
                                have HXC := Aside0.mk (And.intro hx0 (And.intro hx1 (And.intro hx2 (And.intro hx3 (And.intro hxl hxi)))))
                                clear hx0 hx1 hx2 hx3 hxl hxi
                                have HLJ := Aside0.mk hlj
                                have HXX := Aside0.mk hxx
                                clear hxx hlj
                                go_wp2
                                refine start_ (n := 9) (S := fun w' => w'.cell? (a8.add (j * 4)) = some (.int .i64 x.f0) ∧ w'.cell? ⟨(a8.add (j * 4)).block, (a8.add (j * 4)).off + 1, none⟩ = some (.int .i64 x.f1) ∧ w'.cell? ⟨(a8.add (j * 4)).block, (a8.add (j * 4)).off + 2, none⟩ = some (.int .i64 x.f2) ∧ w'.cell? ⟨(a8.add (j * 4)).block, (a8.add (j * 4)).off + 3, none⟩ = some (.slice A9 x.f3.length c9) ∧ w'.cell? (a8.add (k * 4)) = some (.int .i64 y.f0) ∧ w'.cell? ⟨(a8.add (k * 4)).block, (a8.add (k * 4)).off + 1, none⟩ = some (.int .i64 y.f1) ∧ w'.cell? ⟨(a8.add (k * 4)).block, (a8.add (k * 4)).off + 2, none⟩ = some (.int .i64 y.f2) ∧ w'.cell? ⟨(a8.add (k * 4)).block, (a8.add (k * 4)).off + 3, none⟩ = some (.slice A10 y.f3.length c10)) (ds := []) (Nw.fl 9 0) (by kernel_rfl) rfl (by kernel_rfl) ⟨pw_cell_below HB5.out HXC.out.1, pw_cell_below HB5.out HXC.out.2.1, pw_cell_below HB5.out HXC.out.2.2.1, pw_cell_below HB5.out HXC.out.2.2.2.1, pw_cell_below HB5.out HYC.out.1, pw_cell_below HB5.out HYC.out.2.1, pw_cell_below HB5.out HYC.out.2.2.1, pw_cell_below HB5.out HYC.out.2.2.2.1⟩ (fun hHeld => ?_)
                                refine with_tabW nf49_tab nf49_bits (fun HT_ HW_ => ?_)
                                have n_ := Aside0.mk (below_drew HB5.out)
                                clear HB5
                                have HB5 := n_
                                clear n_
                                generalize wr.drew = wd at HB5 hHeld ⊢
                                refine pure_ (i := 0) (N := some 225) (v := ?_) (a' := ?_) (Nw.fl 9 1) rfl rfl (any_of HT_.out (by kernel_rfl)) (fun _ _ _ h => by first | exact h | cases h.1) (Or.inl ⟨by rfl, ?_⟩) ?_ ?_
                                rotate_left
                                · intro w'
                                  go_simp
                                  with_reducible rfl
                                rotate_left
                                · simp only [Act.put, List.setIfInBounds_toArray, List.set_cons_zero, List.set_cons_succ]
                                  rfl
                                refine pure_ (i := 1) (N := some 226) (v := ?_) (a' := ?_) (Nw.fl 9 3) rfl rfl (any_of HT_.out (by kernel_rfl)) (fun _ _ _ h => by first | exact h | cases h.1) (Or.inl ⟨by rfl, ?_⟩) ?_ ?_
                                rotate_left
                                · intro w'
                                  go_simp
                                  with_reducible rfl
                                rotate_left
                                · simp only [Act.put, List.setIfInBounds_toArray, List.set_cons_zero, List.set_cons_succ]
                                  rfl
                                refine pure_ (i := 2) (N := some 227) (v := ?_) (a' := ?_) (Nw.fl 9 7) rfl rfl (any_of HT_.out (by kernel_rfl)) (fun _ _ _ h => by first | exact h | cases h.1) (Or.inl ⟨by rfl, ?_⟩) ?_ ?_
                                rotate_left
                                · intro w'
                                  go_simp
                                  first | with_reducible rfl | rw [if_pos HLJ.out]
                                rotate_left
                                · simp only [Act.put, List.setIfInBounds_toArray, List.set_cons_zero, List.set_cons_succ]
                                  rfl
                                refine take_ (i := 3) (N := some 228) (v := ?_) (a' := ?_) (Nw.fl 9 15) rfl rfl (take_ofW HT_.out HW_.out (by kernel_rfl)) (fun _ _ _ h => by first | exact h | cases h.1) (Or.inl ⟨by rfl, ?_⟩) hHeld ?_ ?_
                                rotate_left
                                · rintro w' ⟨s0, s1, s2, s3, s4, s5, s6, s7⟩

                                  go_simp
                                  with_reducible rfl
                                rotate_left
                                · simp only [Act.put, List.setIfInBounds_toArray, List.set_cons_zero, List.set_cons_succ]
                                  rfl
                                refine pure_ (i := 4) (N := some 229) (v := ?_) (a' := ?_) (Nw.fl 9 31) rfl rfl (any_of HT_.out (by kernel_rfl)) (fun _ _ _ h => by first | exact h | cases h.1) (Or.inl ⟨by rfl, ?_⟩) ?_ ?_
                                rotate_left
                                · intro w'
                                  go_simp
                                  with_reducible rfl
                                rotate_left
                                · simp only [Act.put, List.setIfInBounds_toArray, List.set_cons_zero, List.set_cons_succ]
                                  rfl
                                refine pure_ (i := 5) (N := some 230) (v := ?_) (a' := ?_) (Nw.fl 9 63) rfl rfl (any_of HT_.out (by kernel_rfl)) (fun _ _ _ h => by first | exact h | cases h.1) (Or.inl ⟨by rfl, ?_⟩) ?_ ?_
                                rotate_left
                                · intro w'
                                  go_simp
                                  with_reducible rfl
                                rotate_left
                                · simp only [Act.put, List.setIfInBounds_toArray, List.set_cons_zero, List.set_cons_succ]
                                  rfl
                                refine pure_ (i := 6) (N := some 231) (v := ?_) (a' := ?_) (Nw.fl 9 127) rfl rfl (any_of HT_.out (by kernel_rfl)) (fun _ _ _ h => by first | exact h | cases h.1) (Or.inl ⟨by rfl, ?_⟩) ?_ ?_
                                rotate_left
                                · intro w'
                                  go_simp
                                  first | with_reducible rfl | rw [if_pos HLK.out]
                                rotate_left
                                · simp only [Act.put, List.setIfInBounds_toArray, List.set_cons_zero, List.set_cons_succ]
                                  rfl
                                refine take_ (i := 7) (N := some 232) (v := ?_) (a' := ?_) (Nw.fl 9 255) rfl rfl (take_ofW HT_.out HW_.out (by kernel_rfl)) (fun _ _ _ h => by first | exact h | cases h.1) (Or.inl ⟨by rfl, ?_⟩) hHeld ?_ ?_
                                rotate_left
                                · rintro w' ⟨s0, s1, s2, s3, s4, s5, s6, s7⟩

                                  go_simp
                                  with_reducible rfl
                                rotate_left
                                · simp only [Act.put, List.setIfInBounds_toArray, List.set_cons_zero, List.set_cons_succ]
                                  rfl
                                refine one_ (i := 8) (N := some 233) (Nw.fl 9 511) rfl rfl (one_of HT_.out (by kernel_rfl)) (by decide) (fun K hK => ?_)
                                refine goes_ Try.func20 (by kernel_rfl) rfl #[.agg #[.int .i64 x.f0, .int .i64 x.f1, .int .i64 x.f2, .slice A9 x.f3.length c9], .agg #[.int .i64 y.f0, .int .i64 y.f1, .int .i64 y.f2, .slice A10 y.f3.length c10]] (by rfl) rfl rfl (by (try simp only [List.map_toArray, List.map_cons, List.map_nil, List.append_toArray, List.cons_append, List.nil_append]); first | done | rfl) ?_
                                refine (one.calls wd x y A9 c9 A10 c10 (Kd.C_below HXC.out.2.2.2.2.2 HB5.out) HXC.out.2.2.2.2.1 (Kd.C_below HYC.out.2.2.2.2.2 HB5.out) HYC.out.2.2.2.2.1).mono ?_
                                rintro e w9 ⟨rfl, hb⟩
                                refine ⟨_, rfl, hK.out _ _ ⟨pw_cell_below hb hHeld.1, pw_cell_below hb hHeld.2.1, pw_cell_below hb hHeld.2.2.1, pw_cell_below hb hHeld.2.2.2.1, pw_cell_below hb hHeld.2.2.2.2.1, pw_cell_below hb hHeld.2.2.2.2.2.1, pw_cell_below hb hHeld.2.2.2.2.2.2.1, pw_cell_below hb hHeld.2.2.2.2.2.2.2⟩ (fun hHeld => ?_)⟩
                                have n_ := Aside0.mk (HB5.out.trans (hb.mono HB5.out.size))
                                clear HB5
                                have HB5 := n_
                                clear n_
                                clear hK K hb
                                refine norm_ (a' := ?_) ?_ ?_
                                rotate_left
                                · show Act.put _ (some 233) _ = _
                                  simp only [Act.put, List.setIfInBounds_toArray, List.set_cons_zero, List.set_cons_succ]
                                  rfl
                                refine done_ (done_of HT_.out (by kernel_rfl)) ?_
                                clear hHeld HT_ HW_
                                have HJ5 := Aside0.mk (up1 j (by have := HLJ.out; have := HDL.out.2; omega))
                                have HJC := Aside0.mk (up1 c49 (by have h1 := cnt_le (fun z => eqL z y) D j; have := HC5.out; have := HLJ.out; have := HDL.out.2; omega))
                                cases he : eqL x y with
                                | true =>
                                  have HN5 := Aside0.mk (show k3 + (j + 1) = D.length ∧ c49 + 1 = cntL (fun z => eqL z y) D (j + 1) ∧ Below w8.heap.size w8 w9 from ⟨by have := HK5.out; omega, by rw [cnt_yes HLJ.out (by rw [← HXX.out]; exact he), HC5.out], HB5.out⟩)
                                  clear he
                                  go_wp2
                                  go_roundg k3
                                  case measure => exact Nat.lt_succ_self _
                                  case rel => exact ⟨j + 1, c49 + 1, by first | exact congrArg (Value.int .i64) HJC.out | rfl, by first | exact congrArg (Value.int .i64) HJ5.out | rfl, HN5⟩
                                | false =>
                                  have HN5 := Aside0.mk (show k3 + (j + 1) = D.length ∧ c49 = cntL (fun z => eqL z y) D (j + 1) ∧ Below w8.heap.size w8 w9 from ⟨by have := HK5.out; omega, by rw [cnt_no HLJ.out (by rw [← HXX.out]; exact he), HC5.out], HB5.out⟩)
                                  clear he
                                  go_wp2
                                  go_roundg k3
                                  case measure => exact Nat.lt_succ_self _
                                  case rel => exact ⟨j + 1, c49, rfl, by first | exact congrArg (Value.int .i64) HJ5.out | rfl, HN5⟩
                            · have b9 : decide ((j : Int) < (D.length : Int)) = false := decide_eq_false (by omega)
                              have b10 : decide (j < D.length) = false := decide_eq_false hlj
                              have HF49 := Aside0.mk (show c49 = (D.filter (fun z => eqL z y)).length from by rw [HC5.out, show j = D.length from by have := HK5.out; omega, cnt_all])
                              have HB4 := HB5
                              clear HC5 HK5 HB5 hlj
                              as_aux_lemma =>
                                have hcc : c43 = c49 := by rw [HF43.out, HYD.out.1, ← HF49.out]
                                subst hcc
                                clear HF43 HF49
                                go_wp2
                                clear b9 b10
                                have hk13 := (HB4.out.block _ (blk_lt K13.out)).trans K13.out
                                have hy0 := pw_cell_below HB4.out HYC.out.1
                                rw [HYD.out.2] at hy0
                                refine start_ (n := 13) (S := fun w' => w'.heap[g13]? = some (.cells #[.int .i64 (now + 1), .int .i64 sent, .slice B2 R.length d2, .slice Af fs.length cf] 44 (0, 0)) ∧ w'.cell? (a8.add (k * 4)) = some (.int .i64 (now + 1))) (ds := []) (Nw.fl 13 0) (by kernel_rfl) rfl (by kernel_rfl) ⟨hk13, hy0⟩ (fun hHeld => ?_)
                                refine with_tabW nf51_tab nf51_bits (fun HT_ HW_ => ?_)
                                clear hk13 hy0
                                have n_ := Aside0.mk (below_drew HB4.out)
                                clear HB4
                                have HB4 := n_
                                clear n_
                                generalize wr.drew = wd at HB4 hHeld ⊢
                                refine pure_ (i := 0) (N := some 236) (v := ?_) (a' := ?_) (Nw.fl 13 1) rfl rfl (any_of HT_.out (by kernel_rfl)) (fun _ _ _ h => by first | exact h | cases h.1) (Or.inl ⟨by rfl, ?_⟩) ?_ ?_
                                rotate_left
                                · intro w'
                                  go_simp
                                  with_reducible rfl
                                rotate_left
                                · simp only [Act.put, List.setIfInBounds_toArray, List.set_cons_zero, List.set_cons_succ]
                                  rfl
                                refine pure_ (i := 1) (N := some 237) (v := ?_) (a' := ?_) (Nw.fl 13 3) rfl rfl (any_of HT_.out (by kernel_rfl)) (fun _ _ _ h => by first | exact h | cases h.1) (Or.inl ⟨by rfl, ?_⟩) ?_ ?_
                                rotate_left
                                · intro w'
                                  go_simp
                                  with_reducible rfl
                                rotate_left
                                · simp only [Act.put, List.setIfInBounds_toArray, List.set_cons_zero, List.set_cons_succ]
                                  rfl
                                refine pure_ (i := 2) (N := some 238) (v := ?_) (a' := ?_) (Nw.fl 13 7) rfl rfl (any_of HT_.out (by kernel_rfl)) (fun _ _ _ h => by first | exact h | cases h.1) (Or.inl ⟨by rfl, ?_⟩) ?_ ?_
                                rotate_left
                                · intro w'
                                  go_simp
                                  first | with_reducible rfl | rw [if_pos HLK.out]
                                rotate_left
                                · simp only [Act.put, List.setIfInBounds_toArray, List.set_cons_zero, List.set_cons_succ]
                                  rfl
                                refine pure_ (i := 3) (N := some 239) (v := ?_) (a' := ?_) (Nw.fl 13 15) rfl rfl (any_of HT_.out (by kernel_rfl)) (fun _ _ _ h => by first | exact h | cases h.1) (Or.inl ⟨by rfl, ?_⟩) ?_ ?_
                                rotate_left
                                · intro w'
                                  go_simp
                                  with_reducible rfl
                                rotate_left
                                · simp only [Act.put, List.setIfInBounds_toArray, List.set_cons_zero, List.set_cons_succ]
                                  rfl
                                refine take_ (i := 4) (N := some 240) (v := ?_) (a' := ?_) (Nw.fl 13 31) rfl rfl (take_ofW HT_.out HW_.out (by kernel_rfl)) (fun _ _ _ h => by first | exact h | cases h.1) (Or.inl ⟨by rfl, ?_⟩) hHeld ?_ ?_
                                rotate_left
                                · rintro w' ⟨s0, s1⟩

                                  go_simp
                                  with_reducible rfl
                                rotate_left
                                · simp only [Act.put, List.setIfInBounds_toArray, List.set_cons_zero, List.set_cons_succ]
                                  rfl
                                refine pure_ (i := 5) (N := some 241) (v := ?_) (a' := ?_) (Nw.fl 13 63) rfl rfl (any_of HT_.out (by kernel_rfl)) (fun _ _ _ h => by first | exact h | cases h.1) (Or.inl ⟨by rfl, ?_⟩) ?_ ?_
                                rotate_left
                                · intro w'
                                  go_simp
                                  with_reducible rfl
                                rotate_left
                                · simp only [Act.put, List.setIfInBounds_toArray, List.set_cons_zero, List.set_cons_succ]
                                  rfl
                                refine take_ (i := 6) (N := some 242) (v := ?_) (a' := ?_) (Nw.fl 13 127) rfl rfl (take_ofW HT_.out HW_.out (by kernel_rfl)) (fun _ _ _ h => by first | exact h | cases h.1) (Or.inl ⟨by rfl, ?_⟩) hHeld ?_ ?_
                                rotate_left
                                · rintro w' ⟨s0, s1⟩
                                  have q0 : w'.cell? ⟨g13, 0, none⟩ = some (.int .i64 (now + 1)) := blk_cell s0 0
                                  have q1 : w'.cell? ⟨g13, 1, none⟩ = some (.int .i64 sent) := blk_cell s0 1
                                  have q2 : w'.cell? ⟨g13, 2, none⟩ = some (.slice B2 R.length d2) := blk_cell s0 2
                                  have q3 : w'.cell? ⟨g13, 3, none⟩ = some (.slice Af fs.length cf) := blk_cell s0 3
                                  go_simp
                                  with_reducible rfl
                                rotate_left
                                · simp only [Act.put, List.setIfInBounds_toArray, List.set_cons_zero, List.set_cons_succ]
                                  rfl
                                refine pure_ (i := 7) (N := some 243) (v := ?_) (a' := ?_) (Nw.fl 13 255) rfl rfl (any_of HT_.out (by kernel_rfl)) (fun _ _ _ h => by first | exact h | cases h.1) (Or.inl ⟨by rfl, ?_⟩) ?_ ?_
                                rotate_left
                                · intro w'
                                  go_simp
                                  first | done | with_reducible rfl | rfl
                                rotate_left
                                · simp only [Act.put, List.setIfInBounds_toArray, List.set_cons_zero, List.set_cons_succ]
                                  rfl
                                refine pure_ (i := 8) (N := some 244) (v := ?_) (a' := ?_) (Nw.fl 13 511) rfl rfl (any_of HT_.out (by kernel_rfl)) (fun _ _ _ h => by first | exact h | cases h.1) (Or.inl ⟨by rfl, ?_⟩) ?_ ?_
                                rotate_left
                                · intro w'
                                  go_simp
                                  with_reducible rfl
                                rotate_left
                                · simp only [Act.put, List.setIfInBounds_toArray, List.set_cons_zero, List.set_cons_succ]
                                  rfl
                                refine pure_ (i := 9) (N := some 245) (v := ?_) (a' := ?_) (Nw.fl 13 1023) rfl rfl (any_of HT_.out (by kernel_rfl)) (fun _ _ _ h => by first | exact h | cases h.1) (Or.inl ⟨by rfl, ?_⟩) ?_ ?_
                                rotate_left
                                · intro w'
                                  go_simp
                                  with_reducible rfl
                                rotate_left
                                · simp only [Act.put, List.setIfInBounds_toArray, List.set_cons_zero, List.set_cons_succ]
                                  rfl
                                refine pure_ (i := 10) (N := some 246) (v := ?_) (a' := ?_) (Nw.fl 13 2047) rfl rfl (any_of HT_.out (by kernel_rfl)) (fun _ _ _ h => by first | exact h | cases h.1) (Or.inl ⟨by rfl, ?_⟩) ?_ ?_
                                rotate_left
                                · intro w'
                                  go_simp
                                  with_reducible rfl
                                rotate_left
                                · simp only [Act.put, List.setIfInBounds_toArray, List.set_cons_zero, List.set_cons_succ]
                                  rfl
                                refine pure_ (i := 11) (N := some 247) (v := ?_) (a' := ?_) (Nw.fl 13 4095) rfl rfl (any_of HT_.out (by kernel_rfl)) (fun _ _ _ h => by first | exact h | cases h.1) (Or.inl ⟨by rfl, ?_⟩) ?_ ?_
                                rotate_left
                                · intro w'
                                  go_simp
                                  first | done | with_reducible rfl | rfl
                                rotate_left
                                · simp only [Act.put, List.setIfInBounds_toArray, List.set_cons_zero, List.set_cons_succ]
                                  rfl
                                refine pure_ (i := 12) (N := some 248) (v := ?_) (a' := ?_) (Nw.fl 13 8191) rfl rfl (any_of HT_.out (by kernel_rfl)) (fun _ _ _ h => by first | exact h | cases h.1) (Or.inl ⟨by rfl, ?_⟩) ?_ ?_
                                rotate_left
                                · intro w'
                                  go_simp
                                  first | done | with_reducible rfl | rfl
                                rotate_left
                                · simp only [Act.put, List.setIfInBounds_toArray, List.set_cons_zero, List.set_cons_succ]
                                  rfl
                                refine done_ (done_of HT_.out (by kernel_rfl)) ?_
                                clear hHeld HT_ HW_
                                have HJ4 := Aside0.mk (up1 k (by have := HLK.out; have := HDL.out.2.1; omega))
                                have HN4 := Aside0.mk (show k2 + (k + 1) = D.length ∧ Below w8.heap.size w8 wd from ⟨by have := HK4.out; omega, HB4.out⟩)
                                go_wp2
                                go_roundg k2
                                case measure => exact Nat.lt_succ_self _
                                case rel => exact ⟨k + 1, by first | exact congrArg (Value.int .i64) HJ4.out | rfl, HN4⟩
                  · have b7 : decide ((k : Int) < (D.length : Int)) = false := decide_eq_false (by omega)
                    have b8 : decide (k < D.length) = false := decide_eq_false hlk
                    as_aux_lemma =>
                      have HQ9 := Aside0.mk (HQ.out.step HB4.out)
                      have HVR9 := Aside0.mk (Kd.V_below HVR.out HB4.out)
                      have K13b := Aside0.mk ((HB4.out.block _ (blk_lt K13.out)).trans K13.out)
                      clear HQ HVR K13 HB4 HVD HWC HDC HDA
                      have q0 : wr.cell? ⟨g13, 0, none⟩ = some (.int .i64 (now + 1)) := blk_cell K13b.out 0
                      have q1 : wr.cell? ⟨g13, 1, none⟩ = some (.int .i64 sent) := blk_cell K13b.out 1
                      have q2 : wr.cell? ⟨g13, 2, none⟩ = some (.slice B2 R.length d2) := blk_cell K13b.out 2
                      have q3 : wr.cell? ⟨g13, 3, none⟩ = some (.slice Af fs.length cf) := blk_cell K13b.out 3
                      go_wp2_with ((with_reducible refine gate_store (t := 44) (p := 5) rfl ?_); refine Aside0.out (p := _) ?_)
                      refine Aside0.mk ?_
                      refine store_seg [.int .i64 (now + 1), .int .i64 sent, .slice B2 R.length d2, .slice Af fs.length cf] #[.int .i64 (now + 1), .int .i64 sent, .slice B2 R.length d2, .slice Af fs.length cf] HQ9.out.k5 rfl rfl rfl rfl rfl rfl (by kernel_rfl) (by simp) (by
                        intro q hq
                        simp only [List.mem_cons, List.not_mem_nil, or_false] at hq
                        first | (rcases hq with rfl | rfl | rfl | rfl <;> rfl) | (subst hq; rfl)) rfl ?_
                      intro w10 hk hne hB
                      clear q0 q1 q2 q3
                      have HQ10 := Aside0.mk (HQ9.out.put5 HVR9.out hk hne hB)
                      have HJ := Aside0.mk (up1 i (by have := HI.out; omega))
                      have HN := Aside0.mk (show k1 + (i + 1) = l.length + 50 ∧ MAt fs want R (now + 1) sent (i + 1) ∧ GAt w w10 g5 fs want R (now + 1) sent (.slice A7 want.length c7) B2 d2 Af cf from ⟨by have := HK.out; omega, HMT.out, HQ10.out⟩)
                      clear hk hne hB HQ9 HVR9 K13b HQ10
                      go_wp2
                      go_roundg k1
                      case measure => exact Nat.lt_succ_self _
                      case rel => exact ⟨i + 1, want, R, now + 1, sent, B2, d2, by first | exact congrArg (Value.int .i64) HJ.out | rfl, HN⟩
    · have b1 : decide ((i : Int) < (l.length : Int) + 50) = false := decide_eq_false (by omega)
      have q0 : wr.cell? ⟨g5, 0, none⟩ = some (.int .i64 now) := blk_cell HQ.out.k5 0
      have q1 : wr.cell? ⟨g5, 1, none⟩ = some (.int .i64 sent) := blk_cell HQ.out.k5 1
      have q2 : wr.cell? ⟨g5, 2, none⟩ = some (.slice B way.length d) := blk_cell HQ.out.k5 2
      have q3 : wr.cell? ⟨g5, 3, none⟩ = some (.slice Af fs.length cf) := blk_cell HQ.out.k5 3
      go_wp2_with ((with_reducible refine gate_dst (N := 251) rfl ?_); refine Aside0.out (p := _) ?_)
      refine Aside0.mk ?_
      refine goesL_ (some 251) rfl rfl Try.func25 (by kernel_rfl) rfl #[.agg #[.int .i64 now, .int .i64 sent, .slice B way.length d, .slice Af fs.length cf]] rfl (by (try simp only [List.map_toArray, List.map_cons, List.map_nil, List.append_toArray, List.cons_append, List.nil_append]); first | done | rfl) ?_
      clear q0 q1 q2 q3
      have hv1 := Kd.V_reads' HQ.out.vw
      have hv2 := Kd.V_reads' HQ.out.vf
      refine (rightC hv1.2.2 hv1.2.1 hv2.2.2 hv2.2.1 ⟨by have := HM.out.len; omega, by have := HM.out.fl; omega⟩).mono ?_
      rw [(goesB_iff.mp HM.out.goes).1]
      rintro e w9 ⟨rfl, hb⟩
      refine ⟨_, rfl, ?_⟩
      have HBB := Aside0.mk (HQ.out.ba.trans (hb.mono HQ.out.ba.size))
      clear hv1 hv2 hb
      go_wp2
      go_ret
      exact ⟨rfl, HBB.out⟩
end Go.Proofs.Ytghkngdcmlhmeaa.Nf
namespace Go.Proofs.Ytghkngdcmlhmeaa.Qw
open Go.RowKit Go.Proofs Go.Proofs.Ytghkngdcmlhmeaa.PQu Go.Proofs.YtghkngdcmlhmeaaW.PrintWords Go.Proofs.Ytghkngdcmlhmeaa.Qp Go.Proofs.Ytghkngdcmlhmeaa.Qs Go.Proofs.Ytghkngdcmlhmeaa.Spec
def wf51 (x : S51) : Prop := True ∧ (True ∧ (((Lit.int .i64 x.f2).wf = true) ∧ ((Lit.int .i64 x.f3).wf = true)))
def wf49 (x : Nf.S49) : Prop := ((Lit.int .u8 x.f0).wf = true) ∧ ((Lit.int .u8 x.f1).wf = true)
theorem netFates.walk (w : World) (A0 : Option Addr) (c0 : Nat) (x0 : List S51) (A1 : Option Addr) (c1 : Nat) (x1 : List Nf.S49) (hr0 : Kd.C k51 w A0 x0.length x0) (hc0 : x0.length ≤ c0) (w0 : x0.length ≤ maxLen ∧ x0.length * 24 ≤ 140737488351232 ∧ ∀ y_ ∈ x0, wf51 y_) (hr1 : Kd.C Nf.k49 w A1 x1.length x1) (hc1 : x1.length ≤ c1) (w1 : x1.length ≤ maxLen ∧ x1.length * 2 ≤ 140737488351232 ∧ ∀ y_ ∈ x1, wf49 y_) :
    Calls Try.prog 6 #[.slice A0 x0.length c0, .slice A1 x1.length c1] w fun e w' => e = .returned (.bool true) ∧ Below w.heap.size w w' :=
  Nf.fates.calls w A0 c0 x0 A1 c1 x1 hr0 hc0 hr1 hc1 (fun x hx => ⟨wf8 (w1.2.2 x hx).1, wf8 (w1.2.2 x hx).2⟩)
end Go.Proofs.Ytghkngdcmlhmeaa.Qw

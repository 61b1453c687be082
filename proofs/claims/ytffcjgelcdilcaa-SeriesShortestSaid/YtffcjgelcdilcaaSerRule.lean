/- series.Rule: what Massey's steps come to: a rule that the row obeys, and none is shorter; or a number had no inverse. Over the text of Rule alone; no memory. -/
import Derived.Test.YtffcjgelcdilcaaSer
import Derived.Test.YtffcjgelcdilcaaRule
set_option linter.unusedVariables false
set_option linter.unusedSimpArgs false
set_option linter.unusedSectionVars false
namespace Fp
open Classical
open Go.RowKit Go.Proofs.Ytffcjgelcdilcaa.PSer Go.Proofs.YtffcjgelcdilcaaW.PrintWords Go.Proofs.YtffcjgelcdilcaaW.PrintLast Go.Proofs.YtffcjgelcdilcaaW.PrintMore Go.Proofs.Ytffcjgelcdilcaa.Spec Go.Proofs.Ytffcjgelcdilcaa.Sr
section
variable {p : Nat} [NeZero p]

theorem one_val (hp : Md p) : ((1 : Fin p).val : Int) = 1 := by
  have := hp.1
  have h : (1 : Fin p).val = 1 % p := rfl
  rw [h, Nat.mod_eq_of_lt (by omega)]
  rfl
theorem toF_one (hp : Md p) : (toF 1 : Fin p) = 1 := by
  have h := toF_of_val (1 : Fin p)
  rw [one_val hp] at h
  exact h
theorem one_ne (hp : Md p) : (1 : Fin p) ≠ 0 := fun e => by
  have h := one_val hp
  rw [e] at h
  exact absurd h (by show ((0 : Nat) : Int) ≠ 1; omega)
theorem noinv (hp : Md p) {a : Int} (ha : 0 ≤ a ∧ a < p) (h : ∀ c, a * c % p ≠ 1) (hn : (toF a : Fin p) ≠ 0) : ¬ Pl.Fld p := fun hf => by
  obtain ⟨b, hb⟩ := hf.2 _ hn
  apply h (b.val : Int)
  have e : (toF (a * (b.val : Int) % p) : Fin p) = 1 := by rw [toF_mul ha.1 (by omega), toF_of_val, hb]
  rw [← toF_one hp] at e
  exact toF_inj (p := p) (emod_range _) ⟨by omega, by have := hp.1; omega⟩ e
theorem row_take (l : List Int) (n i : Nat) : (row (l.take n) i : Fin p) = if i < n then row l i else 0 := toP_take l n i

/-- Massey's state, as lists. -/
structure MI (p : Nat) [NeZero p] (s : List Int) (N : Nat) (c b : List Int) (L LB r ag : Nat) (left : Int) : Prop where
  hc : In p c
  hb : In p b
  cl : c.length ≤ N + 1
  bl : b.length ≤ r + 1
  hl : 0 ≤ left ∧ left < p
  nz : (toF left : Fin p) ≠ 0
  ms : Pl.Ms (row s : Nat → Fin p) (row c) (row b) N L LB r ag (toF left)
theorem row_one (hp : Md p) (i : Nat) : (row [1] i : Fin p) = if i = 0 then 1 else 0 := by
  cases i with
  | zero => exact toF_one hp
  | succ i => exact row_beyond (by simp)
theorem MI.start (hp : Md p) (s : List Int) : MI p s 0 [1] [1] 0 0 0 0 1 where
  hc := In.cons ⟨by omega, by have := hp.1; omega⟩ In.nil
  hb := In.cons ⟨by omega, by have := hp.1; omega⟩ In.nil
  cl := by simp
  bl := by simp
  hl := ⟨by omega, by have := hp.1; omega⟩
  nz := by rw [toF_one hp]; exact one_ne hp
  ms := by
    rw [toF_one hp]
    have e : (row [1] : Nat → Fin p) = fun i => if i = 0 then 1 else 0 := funext (row_one hp)
    rw [e]
    exact Pl.Ms.start _
theorem stp_same {s c b : List Int} {N L left ag : Int} (h : Ev (fun k => series_sum.f k p s c N) 0) : Ev (fun k => stp.f k p s N c b L left ag) (true, c, b, L, left, wrap64 (ag + 1)) :=
  Ev.congr (f := fun k => (series_sum.f k p s c N).bind fun d => if d = 0 then some (true, c, b, L, left, wrap64 (ag + 1)) else _) (fun k => rfl) (Ev.bind h (Ev.iteT rfl (Ev.now _)))
theorem stp_none {s c b : List Int} {N L left ag d : Int} (h : Ev (fun k => series_sum.f k p s c N) d) (hd : d ≠ 0) (hx : Ev (fun k => field_Div.f k p d left) (0, 5)) : Ev (fun k => stp.f k p s N c b L left ag) (false, c, b, L, left, wrap64 (ag + 1)) :=
  Ev.congr (f := fun k => (series_sum.f k p s c N).bind fun d => if d = 0 then some (true, c, b, L, left, wrap64 (ag + 1)) else (field_Div.f k p d left).bind fun x => if x.2 = 0 then _ else some (false, c, b, L, left, wrap64 (ag + 1))) (fun k => rfl)
    (Ev.bind h (Ev.iteF hd (Ev.bind hx (Ev.iteF (by simp) (Ev.now _)))))
theorem stp_long {s c b g : List Int} {N L left ag d x : Int} (h : Ev (fun k => series_sum.f k p s c N) d) (hd : d ≠ 0) (hx : Ev (fun k => field_Div.f k p d left) (x, 0)) (hg : Ev (fun k => series_less.f k p c b x (wrap64 (ag + 1))) g) (hL : wrap64 (2 * L) ≤ N) :
    Ev (fun k => stp.f k p s N c b L left ag) (true, g, c, wrap64 (wrap64 (N + 1) - L), d, 0) :=
  Ev.congr (f := fun k => (series_sum.f k p s c N).bind fun d => if d = 0 then some (true, c, b, L, left, wrap64 (ag + 1)) else (field_Div.f k p d left).bind fun x => if x.2 = 0 then ((series_less.f k p c b x.1 (wrap64 (ag + 1))).bind fun g =>
      if wrap64 (2 * L) ≤ N then some (true, g, c, wrap64 (wrap64 (N + 1) - L), d, 0) else some (true, g, b, L, left, wrap64 (ag + 1))) else some (false, c, b, L, left, wrap64 (ag + 1))) (fun k => rfl)
    (Ev.bind h (Ev.iteF hd (Ev.bind hx (Ev.iteT rfl (Ev.bind hg (Ev.iteT hL (Ev.now _)))))))
theorem stp_kept {s c b g : List Int} {N L left ag d x : Int} (h : Ev (fun k => series_sum.f k p s c N) d) (hd : d ≠ 0) (hx : Ev (fun k => field_Div.f k p d left) (x, 0)) (hg : Ev (fun k => series_less.f k p c b x (wrap64 (ag + 1))) g) (hL : ¬ wrap64 (2 * L) ≤ N) :
    Ev (fun k => stp.f k p s N c b L left ag) (true, g, b, L, left, wrap64 (ag + 1)) :=
  Ev.congr (f := fun k => (series_sum.f k p s c N).bind fun d => if d = 0 then some (true, c, b, L, left, wrap64 (ag + 1)) else (field_Div.f k p d left).bind fun x => if x.2 = 0 then ((series_less.f k p c b x.1 (wrap64 (ag + 1))).bind fun g =>
      if wrap64 (2 * L) ≤ N then some (true, g, c, wrap64 (wrap64 (N + 1) - L), d, 0) else some (true, g, b, L, left, wrap64 (ag + 1))) else some (false, c, b, L, left, wrap64 (ag + 1))) (fun k => rfl)
    (Ev.bind h (Ev.iteF hd (Ev.bind hx (Ev.iteT rfl (Ev.bind hg (Ev.iteF hL (Ev.now _)))))))
/-- One step. -/
theorem step_ev (hp : Md p) {s : List Int} (hs : In p s) (hsl : s.length ≤ 256) {N : Nat} (hN : N < s.length) {c b : List Int} {L LB r ag : Nat} {left : Int} (h : MI p s N c b L LB r ag left) :
    (∃ (c' b' : List Int) (L' LB' r' ag' : Nat) (left' : Int), Ev (fun k => stp.f k p s (N : Int) c b (L : Int) left (ag : Int)) (true, c', b', (L' : Int), left', (ag' : Int)) ∧ MI p s (N + 1) c' b' L' LB' r' ag' left') ∨
    (∃ R, Ev (fun k => stp.f k p s (N : Int) c b (L : Int) left (ag : Int)) (false, R) ∧ ¬ Pl.Fld p) := by
  have hw := h.ms.when_
  have hln := h.ms.len
  have hcl := h.cl
  have hbl := h.bl
  have hsum := evSum hp h.hc hs hN (by omega) (by omega)
  have b1 : c.length ≤ N + 1 + 1 := by omega
  have b2 : ag + 1 < 1000000 := by omega
  have b3 : c.length < 1000000 := by omega
  have b4 : b.length < 1000000 := by omega
  have b5 : c.length ≤ N + 1 + 1 := by omega
  have b6 : max c.length (b.length + (ag + 1)) ≤ N + 1 + 1 := by omega
  have b7 : wrap64 (((N + 1 : Nat) : Int) - L) = ((N + 1 - L : Nat) : Int) := by rw [w64_in (by omega) (by omega)]; omega
  have b8 : 2 * L ≤ N → wrap64 (2 * (L : Int)) ≤ (N : Int) := fun h => by rw [w64_in (by omega) (by omega)]; omega
  have b9 : ¬ 2 * L ≤ N → ¬ wrap64 (2 * (L : Int)) ≤ (N : Int) := fun h => by rw [w64_in (by omega) (by omega)]; omega
  have b10 : ¬ 2 * L ≤ N → N < 2 * L := fun h => by omega
  have hdr : ∀ d : Fin p, 0 ≤ (d.val : Int) ∧ (d.val : Int) < p := fun d => ⟨by omega, by have := d.isLt; omega⟩
  have e13 : wrap64 ((ag : Int) + 1) = ((ag + 1 : Nat) : Int) ∧ wrap64 ((N : Int) + 1) = ((N + 1 : Nat) : Int) := ⟨by rw [w64_in (by omega) (by omega)]; omega, by rw [w64_in (by omega) (by omega)]; omega⟩
  obtain ⟨e1, e3⟩ := e13
  clear hw hln hcl hbl hN hsl
  by_cases hd : (cv (row c) (row s) N : Fin p) = 0
  · refine .inl ⟨c, b, L, LB, r, ag + 1, left, ?_, ⟨h.hc, h.hb, b1, h.bl, h.hl, h.nz, h.ms.same hd⟩⟩
    rw [← e1]
    rw [hd] at hsum
    exact stp_same hsum
  · have hdv : ¬ (((cv (row c) (row s) N : Fin p).val : Int) = 0) := fun e => hd (by
      have e' := toF_of_val (cv (row c) (row s) N : Fin p)
      rw [e] at e'
      exact e'.symm)
    replace hdr := hdr (cv (row c) (row s) N : Fin p)
    obtain ⟨x, e, hdiv, hx | hx⟩ := div_spec hp.1 hp.2 hdr.1 hdr.2 h.hl.1 h.hl.2
    · obtain ⟨rfl, hx0, hx1, hx2⟩ := hx
      have hxl : toF x * toF left = (cv (row c) (row s) N : Fin p) := by rw [← toF_mul hx0 h.hl.1, hx2, toF_of_val]
      obtain ⟨g, g1, g2, g3, g4⟩ := evLess hp h.hc h.hb ⟨hx0, hx1⟩ (on := ag + 1) b2 b3 b4
      have gr : (row g : Nat → Fin p) = Pl.nx (row c) (row b) (toF x) (ag + 1) := funext g4
      have hgl : g.length ≤ N + 1 + 1 := by rw [g3]; exact b6
      by_cases hL : 2 * L ≤ N
      · refine .inl ⟨g, c, N + 1 - L, L, N + 1, 0, ((cv (row c) (row s) N : Fin p).val : Int), ?_, ⟨g2, h.hc, hgl, b5, hdr, by rw [toF_of_val]; exact hd, ?_⟩⟩
        · rw [← e1] at g1
          have h5 := stp_long (L := (L : Int)) hsum hdv hdiv g1 (b8 hL)
          rw [e3, b7] at h5
          exact h5
        · rw [gr, toF_of_val]
          exact h.ms.longer hd (.inr hxl) hL
      · refine .inl ⟨g, b, L, LB, r, ag + 1, left, ?_, ⟨g2, h.hb, hgl, h.bl, h.hl, h.nz, ?_⟩⟩
        · rw [← e1] at g1 ⊢
          exact stp_kept hsum hdv hdiv g1 (b9 hL)
        · rw [gr]
          exact h.ms.kept hd (.inr hxl) (b10 hL)
    · obtain ⟨rfl, rfl, hx2⟩ := hx
      exact .inr ⟨_, stp_none hsum hdv hdiv, noinv hp h.hl hx2 h.nz⟩
/-- The end: noughts put on, or taken. -/
theorem pad_ev {L : Nat} (hL : L < 1000000) (d : Nat) : ∀ c : List Int, d = L + 1 - c.length → c.length < 2000000 → In p c → (∀ i, L < i → (row c i : Fin p) = 0) →
    ∃ z, Ev (fun k => rul.l1 k c (L : Int)) (z, 0) ∧ z.length = L + 1 ∧ In p z ∧ ∀ i, (row z i : Fin p) = row c i := by
  have e1 : wrap64 ((L : Int) + 1) = ((L + 1 : Nat) : Int) := by rw [w64_in (by omega) (by omega)]; omega
  induction d with
  | zero =>
    intro c hd hcl hc hz
    refine ⟨c.take (L + 1), Ev.step (fun k => rul.l1.eq_2 ..) (Ev.iteF (by rw [e1]; omega) (Ev.iteT (by rw [e1]; omega) ?_)), by rw [List.length_take]; omega, hc.take _, fun i => ?_⟩
    · rw [e1, Int.toNat_natCast]
      exact Ev.now _
    · rw [row_take]
      split
      · rfl
      · exact (hz i (by omega)).symm
  | succ d ih =>
    intro c hd hcl hc hz
    have ep : ∀ i, (row (c ++ [0]) i : Fin p) = row c i := fun i => row_pad c 1 i
    obtain ⟨z, h1, h2, h3, h4⟩ := ih (c ++ [0]) (by rw [List.length_append, List.length_singleton]; omega) (by rw [List.length_append, List.length_singleton]; omega) (hc.append (In.cons ⟨by omega, by have := pos_p (p := p); omega⟩ In.nil)) (fun i hi => by rw [ep, hz i hi])
    exact ⟨z, Ev.step (fun k => rul.l1.eq_2 ..) (Ev.iteT (by rw [e1]; omega) (Ev.iteT (by omega) h1)), h2, h3, fun i => by rw [h4, ep]⟩
/-- What Rule tells of a row in range: a shortest rule; or that a number had no inverse. -/
def RuleRes (p : Nat) [NeZero p] (s : List Int) (r : List Int × Int) : Prop :=
  (r.2 = 0 ∧ ∃ L, r.1.length = L + 1 ∧ L ≤ s.length ∧ In p r.1 ∧ Pl.Rl (row s : Nat → Fin p) (row r.1) L s.length ∧ Pl.Lst (row s : Nat → Fin p) L s.length) ∨ (r = ([], 5) ∧ ¬ Pl.Fld p)
theorem l0_ev (hp : Md p) {s : List Int} (hs : In p s) (hsl : s.length ≤ 256) (d : Nat) : ∀ (N : Nat) (c b : List Int) (L LB r ag : Nat) (left : Int), N + d = s.length → MI p s N c b L LB r ag left →
    ∃ R, Ev (fun k => rul.l0 k p s (N : Int) c b (L : Int) left (ag : Int)) R ∧ RuleRes p s R := by
  induction d with
  | zero =>
    intro N c b L LB r ag left hN h
    have hw := h.ms.when_
    have hln := h.ms.len
    have hcl := h.cl
    obtain ⟨z, h1, h2, h3, h4⟩ := pad_ev (p := p) (L := L) (by omega) _ c rfl (by omega) h.hc h.ms.rule.deg
    have ez : (row z : Nat → Fin p) = row c := funext h4
    rw [Nat.add_zero] at hN
    subst hN
    exact ⟨_, Ev.step (fun k => rul.l0.eq_2 ..) (Ev.iteF (by omega) h1), .inl ⟨rfl, L, h2, by omega, h3, by rw [ez]; exact h.ms.rule, h.ms.lst⟩⟩
  | succ d ih =>
    intro N c b L LB r ag left hN h
    have e3 : wrap64 ((N : Int) + 1) = ((N + 1 : Nat) : Int) := by rw [w64_in (by omega) (by omega)]; omega
    rcases step_ev hp hs hsl (N := N) (by omega) h with ⟨c', b', L', LB', r', ag', left', h1, h2⟩ | ⟨R, h1, h2⟩
    · obtain ⟨R, h3, h4⟩ := ih (N + 1) c' b' L' LB' r' ag' left' (by omega) h2
      rw [← e3] at h3
      exact ⟨R, Ev.step (fun k => rul.l0.eq_2 ..) (Ev.iteT (by omega) (Ev.bind h1 (Ev.iteT rfl h3))), h4⟩
    · exact ⟨([], 5), Ev.step (fun k => rul.l0.eq_2 ..) (Ev.iteT (by omega) (Ev.bind h1 (Ev.iteF (by simp) (Ev.now _)))), .inr ⟨rfl, h2⟩⟩
theorem has_in {q : Int} {l : List Int} (h : hasB q l = true) (h0 : ∀ x ∈ l, 0 ≤ x) : ∃ (p : Nat) (_ : NeZero p), q = p ∧ Md p ∧ In p l := by
  unfold hasB at h
  rw [Bool.and_eq_true, List.all_eq_true] at h
  obtain ⟨p, rfl, hp⟩ := okB_md h.2
  exact ⟨p, hp.nz, rfl, hp, fun x hx => ⟨h0 x hx, of_decide_eq_true (h.1 x hx)⟩⟩
theorem in_has (hp : Md p) {l : List Int} (h : In p l) : hasB p l = true := by
  unfold hasB
  rw [hp.ok, Bool.and_true, List.all_eq_true]
  exact fun x hx => decide_eq_true (h x hx).2
theorem evHas (q : Int) {l : List Int} (hl : l.length < 4611686018427387904) : Ev (fun k => field_Has.f k q l) (hasB q l) := ⟨l.length + 1, fun k hk => has_spec (by omega) (by omega)⟩
/-- series.Rule of a row in range. -/
theorem evRule (hp : Md p) {s : List Int} (hs : In p s) (hsl : s.length ≤ 256) : ∃ R, Ev (fun k => rul.f k p s) R ∧ RuleRes p s R := by
  obtain ⟨R, h1, h2⟩ := l0_ev hp hs hsl s.length 0 [1] [1] 0 0 0 0 1 (by omega) (MI.start hp s)
  have hh := evHas (p : Int) (l := s) (by omega)
  rw [in_has hp hs] at hh
  exact ⟨R, Ev.bind hh (Ev.iteT rfl (Ev.iteF (by omega) h1)), h2⟩
/-- Over a prime: the shortest rule. -/
theorem evRuleP (hp : Md p) (hf : Pl.Fld p) {s : List Int} (hs : In p s) (hsl : s.length ≤ 256) : ∃ z L, Ev (fun k => rul.f k p s) (z, 0) ∧ z.length = L + 1 ∧ L ≤ s.length ∧ In p z ∧ Pl.Rl (row s : Nat → Fin p) (row z) L s.length ∧ Pl.Lst (row s : Nat → Fin p) L s.length := by
  obtain ⟨⟨z, e⟩, h1, ⟨h2, L, h3, h4, h5, h6, h7⟩ | ⟨h2, h3⟩⟩ := evRule hp hs hsl
  · have h2' : e = 0 := h2
    subst h2'
    exact ⟨z, L, h1, h3, h4, h5, h6, h7⟩
  · exact absurd hf h3
end
end Fp

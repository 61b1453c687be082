/- Over a prime a polynomial that is a product of x less numbers is 0 at just these; its degree is how many there are. -/
import Derived.Test.YtffcjgelcdilcaaPolyU
import Derived.Test.YtffcjgelcdilcaaLin
import Derived.Test.YtffcjgelcdilcaaPAllx10
set_option linter.unusedVariables false
set_option linter.unusedSimpArgs false
set_option linter.unusedSectionVars false
namespace Go.Proofs.Ytffcjgelcdilcaa.Pure
open Go.RowKit Go.Proofs.Ytffcjgelcdilcaa.PAll Go.Proofs.YtffcjgelcdilcaaW.PrintWords Go.Proofs.YtffcjgelcdilcaaW.PrintLast Go.Proofs.Ytffcjgelcdilcaa.Spec Fp

section
variable {p : Nat} [NeZero p]
theorem roots_l0 (hp : Md p) (hF : Pl.Fld p) {l : List Int} (hl : In p l) (hlen : l.length ≤ 20) {x : Int} (hx : 0 ≤ x ∧ x < p) (d : Nat) : ∀ (i : Nat) (f : Pl p) (z : Bool), i + d = l.length → Pl.sz f = i + 1 → Pl.top f = 1 → (Pl.ev f (toF x) = 0 ↔ z = true) →
    Ev (fun k => affidavitlaw03_PolyRoots.l0 k p l x (toL f) z (i : Int)) true := by
  induction d with
  | zero =>
    intro i f z hi hs ht hz
    have hf0 : f ≠ 0 := by rintro rfl; rw [Pl.sz_zero] at hs; omega
    refine Ev.step (fun k => affidavitlaw03_PolyRoots.l0.eq_2 _ _ _ _ _ _ k) ?_
    refine Ev.iteF (by omega) (Ev.bind (evEvalL hp (by omega) hx) ?_)
    obtain ⟨c, hc, hM⟩ := evMonicL hp (A := f) (by omega) hf0 (hF.2 _ (Pl.top_ne hf0))
    have hc1 : c = 1 := by rw [ht] at hc; rw [← hc]; grind
    rw [hc1, Pl.C_one, Pl.one_mul] at hM
    refine Ev.bind hM (Ev.iteT rfl (Ev.iteT rfl (Ev.iteT ?_ (Ev.iteT ?_ (Ev.bind (evSameT (by rw [length_toL]; omega) rfl) (Ev.now _))))))
    · show ((((Pl.ev f (toF x)).val : Int) == 0) == z) = true
      by_cases h0 : Pl.ev f (toF x) = 0
      · rw [hz.1 h0, h0]
        rfl
      · have hv : ((Pl.ev f (toF x)).val : Int) ≠ 0 := fun h => h0 (by rw [← toF_of_val (Pl.ev f (toF x)), h]; rfl)
        rw [beq_eq_false_iff_ne.2 hv]
        cases z with
        | false => rfl
        | true => exact absurd (hz.2 rfl) h0
    · rw [length_toL, hs, w64_in (by omega) (by omega)]
      omega
  | succ d ih =>
    intro i f z hi hs ht hz
    have hf0 : f ≠ 0 := by rintro rfl; rw [Pl.sz_zero] at hs; omega
    have hr : 0 ≤ l.getD i 0 ∧ l.getD i 0 < p := hl.get i
    have hFS : Ev (fun k => field_Sub.f k p 0 (l.getD i 0)) ((0 - l.getD i 0) % (p : Int), 0) :=
      ⟨13, fun k hk => by show field_Sub.f k p _ _ = _; rw [sub_spec hp.1 hp.2 (Int.le_refl 0) (by have := hp.1; omega) hr.1 hr.2 hk]⟩
    have hL := lin_toL hp hr
    have hl2 := lin_sz hp (toF (l.getD i 0) : Fin p)
    have hm := Pl.sz_mul hF hf0 (lin_ne hp (toF (l.getD i 0) : Fin p))
    have hM := evMulL hp (A := f) (B := lin (toF (l.getD i 0) : Fin p)) (by omega) (by omega) (by omega)
    rw [hL] at hM
    have hev : Pl.ev (f * lin (toF (l.getD i 0))) (toF x) = Pl.ev f (toF x) * (toF x - toF (l.getD i 0)) := by rw [Pl.ev_mul, lin_ev]
    have e2 : wrap64 ((i : Int) + 1) = ((i + 1 : Nat) : Int) := by rw [w64_in (by omega) (by omega)]; omega
    have htop : Pl.top (f * lin (toF (l.getD i 0))) = 1 := by
      rw [Pl.top_mul hF hf0 (lin_ne hp _), ht, lin_top hp]
      grind
    have i1 : (i : Int) < (l.length : Int) := by omega
    have i2 : (0 : Int) ≤ (i : Int) := Int.natCast_nonneg i
    refine Ev.step (fun k => affidavitlaw03_PolyRoots.l0.eq_2 _ _ _ _ _ _ k) ?_
    refine Ev.iteT i1 (Ev.iteT i2 ?_)
    rw [rd_nat, e2]
    refine Ev.bind hFS (Ev.bind hM (Ev.iteT rfl ?_))
    cases z with
    | true =>
      refine Ev.iteT rfl (ih (i + 1) _ true (by omega) (by omega) htop ⟨fun _ => rfl, fun _ => ?_⟩)
      rw [hev, hz.2 rfl]
      grind
    | false =>
      refine Ev.iteF (by decide) (ih (i + 1) _ _ (by omega) (by omega) htop ?_)
      rw [hev]
      have hne : Pl.ev f (toF x) ≠ 0 := fun h => by cases hz.1 h
      rw [beq_iff_eq]
      constructor
      · intro h
        apply Classical.byContradiction
        intro hc
        refine hF.mul_ne hne (b := toF x - toF (l.getD i 0)) (fun h2 => hc ?_) h
        refine (toF_inj (p := p) hx hr ?_).symm
        have : (toF x : Fin p) - toF (l.getD i 0) + toF (l.getD i 0) = toF (l.getD i 0) := by rw [h2]; grind
        rw [← this]
        grind
      · intro h
        rw [← h]
        grind
end

theorem PolyRoots : affidavitlaw03_PolyRoots.Pure := by
  intro a0 l1 x w0 _ _ w1 wx
  have n1 := wfs w1
  have nx := wf0 wx
  refine Ev.rounds (g := fun k => affidavitlaw03_PolyRoots.f k a0 l1 x) ?_
  refine Ev.congr (f := fun k => (affidavitlaw03_awake.f k).bind _) (fun k => rfl) (Ev.bind evAwake ?_)
  refine Ev.iteT rfl ?_
  have triv : Ev (fun k => affidavitlaw03_PolyRoots.j0 k a0 l1 x true) true := Ev.step (f := fun _ => some true) (fun k => rfl) (Ev.now _)
  by_cases c1 : (l1.length : Int) > 20
  · exact Ev.iteT c1 triv
  refine Ev.iteF c1 ?_
  obtain ⟨b, hb, hpr⟩ := evPrime a0 (wf0 w0)
  refine Ev.bind hb ?_
  cases b with
  | false => exact Ev.iteF (by decide) triv
  | true =>
    have hH : Ev (fun k => field_Has.f k a0 l1) (hasB a0 l1) := ⟨l1.length + 1, fun k hk => has_spec (by omega) (by omega)⟩
    refine Ev.iteT rfl (Ev.bind hH ?_)
    cases hh : hasB a0 l1 with
    | false => exact Ev.iteF (by decide) triv
    | true =>
      refine Ev.iteT rfl ?_
      by_cases cx : x ≥ a0
      · rw [decide_eq_true cx]
        exact triv
      rw [decide_eq_false cx]
      unfold hasB at hh
      simp only [Bool.and_eq_true, decide_eq_true_eq, List.all_eq_true] at hh
      obtain ⟨p, rfl, hp⟩ := okB_md hh.2
      have nz := hp.nz
      have hF : Pl.Fld p := Pr.fld (by have h := hpr rfl; rwa [Int.toNat_natCast] at h)
      have h1L : toL (1 : Pl p) = [1] := by
        have h2 : Pl.sz (1 : Pl p) = 1 := Pl.sz_eq (d := 0) (by rw [Pl.one_at, if_pos rfl]; exact one_ne hp) (fun i hi => by rw [Pl.one_at, if_neg (by omega)])
        refine ext_list (by rw [length_toL, h2]; rfl) fun i hi => ?_
        rw [length_toL, h2] at hi
        obtain rfl : i = 0 := by omega
        rw [toL_get, Pl.one_at, if_pos rfl]
        exact one_val hp
      have hs1 : Pl.sz (1 : Pl p) = 1 := by rw [← length_toL, h1L]; rfl
      refine Ev.step (f := fun k => affidavitlaw03_PolyRoots.l0 k p l1 x [1] false 0) (fun k => rfl) ?_
      rw [← h1L]
      refine roots_l0 hp hF (fun y hy => ⟨n1 y hy, hh.1 y hy⟩) (by omega) ⟨nx, by omega⟩ l1.length 0 1 false (by omega) hs1 ?_ ⟨fun h => ?_, fun h => by cases h⟩
      · unfold Pl.top; rw [hs1]; rfl
      · rw [← Pl.C_one, Pl.ev_C] at h
        exact absurd h (one_ne hp)
end Go.Proofs.Ytffcjgelcdilcaa.Pure

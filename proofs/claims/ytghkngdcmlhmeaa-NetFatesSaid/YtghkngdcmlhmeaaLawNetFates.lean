/- The row of NetFates. -/
import Derived.Test.YtghkngdcmlhmeaaRows
import Derived.Test.YtghkngdcmlhmeaaOpens
import Derived.Test.YtghkngdcmlhmeaaQFates
import Derived.WalkKit
import Derived.ProofKit
import Derived.OpenShut
import Derived.ShutString
import Derived.ChangeOld
import Derived.Below
import Derived.SizedLaws
import Derived.Carry
set_option linter.unusedVariables false
set_option linter.unusedSimpArgs false
set_option linter.unusedSectionVars false
namespace Go.Proofs.Ytghkngdcmlhmeaa.netFates
open Go.ChangeShapes Go.WideShapes Go.ChangeAt Go.RowKit Go.Proofs.Ytghkngdcmlhmeaa.PQu Go.Proofs.YtghkngdcmlhmeaaW.PrintWords Go.Proofs.YtghkngdcmlhmeaaW.PrintLast
open Go.ChangeMaps (open_string shut_string)
theorem own : ownKnob Try.prog.godebug = none := by kernel_rfl
theorem laidOut : laidOutB Try.prog = true := by kernel_rfl
theorem opens51 : Ops.Opens Try.prog 51 k51 Qw.wf51 := by
  have h := Ops.opens_struct Try.underlying51 (Ops.OpensL.cons (Ops.opens_bool (by kernel_rfl)) rfl (by kernel_rfl) rfl (Ops.OpensL.cons (Ops.opens_bool (by kernel_rfl)) rfl (by kernel_rfl) rfl (Ops.OpensL.cons (Ops.opens_int (k := .i64) (by kernel_rfl)) rfl (by kernel_rfl) rfl (Ops.OpensL.one (Ops.opens_int (k := .i64) (by kernel_rfl)) rfl (by kernel_rfl))))) (by kernel_rfl)
  have h2 := Ops.Opens.iso h (fun x : S51 => (x.f0, x.f1, x.f2, x.f3)) (fun p => ⟨p.1, p.2.1, p.2.2.1, p.2.2.2⟩) (fun _ => rfl)
  exact h2
theorem opens49 : Ops.Opens Try.prog 49 Nf.k49 Qw.wf49 := by
  have h := Ops.opens_struct Try.underlying49 (Ops.OpensL.cons (Ops.opens_int (k := .u8) (by kernel_rfl)) rfl (by kernel_rfl) rfl (Ops.OpensL.one (Ops.opens_int (k := .u8) (by kernel_rfl)) rfl (by kernel_rfl))) (by kernel_rfl)
  have h2 := Ops.Opens.iso h (fun x : Nf.S49 => (x.f0, x.f1)) (fun p => ⟨p.1, p.2⟩) (fun _ => rfl)
  exact h2
set_option maxRecDepth 100000 in
theorem lifted (os : Os) (started : os.Started) (H : Type) (enc : TypeId × Value → H) :
    ReturnsInHanded {} Try.checked os 6 .any (Rows.netFatesSpec.pre6 enc Try.prog Try.f6 Rows.netFatesRow.domain false) (Rows.netFatesSpec.post enc Try.prog Try.f6 false true false false) := by
  refine returnsInHanded_of_change_sized (C := Try.checked) own started (by kernel_rfl) Try.func6
    (ChangeSpec.witness6 (enc := enc) (C := Try.checked) false ⟨#[], #[.slice none 0 0, .slice none 0 0], []⟩ 12 (by kernel_rfl) (by kernel_rfl) (by kernel_rfl) (by kernel_rfl)) ?_
  intro W base args ds gs before hval0 hW hcnd hsz0 _
  have hsz : (DataW.weightsEach Try.prog (Try.f6.params.toList ++ Rows.netFatesSpec.plain.varTypes Try.prog) (ds ++ gs)).all (· ≤ reachBytes) = true := hsz0
  have hval : ∀ (j : Nat) t v, Try.f6.params[j]? = some t → args[j]? = some v → Value.okWide Try.prog W .any base t v := hval0
  have hW' := hW
  obtain ⟨p, q, hA0, hV, rfl, hfz, hnd⟩ := hW
  have hA : DataW.TrodAll enc Try.prog W 0 (fun _ => true) true Try.f6.params.toList args.toList ds p := hA0
  rw [Try.params6] at hA hval hsz
  obtain ⟨v0, vs0, d0, ds0, p0, q0, hargs, rfl, rfl, h0, r0⟩ := trodAll_cons hA
  obtain ⟨v1, vs1, d1, ds1, p1, q1, rfl, rfl, rfl, h1, r1⟩ := trodAll_cons r0
  obtain ⟨rfl, rfl, rfl⟩ := trodAll_nil r1
  obtain rfl : args = #[v0, v1] := by cases args; simp_all
  obtain ⟨rfl, rfl⟩ := trodVars_none hV
  have k0 := h0
  have lt0 : ∀ x ∈ p0, x.block < W.heap.size := by obtain ⟨m, hm⟩ := k0; exact DataW.trod_lt m _ _ _ hm
  obtain ⟨x0, hK0, w0⟩ := Ops.open_arg (Ops.opens_slice (e := 51) (B := 24) (by kernel_rfl) opens51 (by kernel_rfl) (by kernel_rfl)) h0 hsz (j := 0) rfl rfl
  obtain ⟨a0, len0, cap0, rfl⟩ := okWide_slice Try.underlying41 (hval 0 41 v0 rfl rfl)
  obtain ⟨A0, c0, hcs0, hc0, hr0⟩ := hK0
  have hcs0' : ([Value.slice a0 len0 cap0] : List Value) = [.slice A0 x0.length c0] := hcs0
  injection hcs0' with hcs0' _
  injection hcs0' with e1_ e2_ e3_
  subst e1_ e2_ e3_
  have k1 := h1
  have lt1 : ∀ x ∈ p1, x.block < W.heap.size := by obtain ⟨m, hm⟩ := k1; exact DataW.trod_lt m _ _ _ hm
  obtain ⟨x1, hK1, w1⟩ := Ops.open_arg (Ops.opens_slice (e := 49) (B := 2) (by kernel_rfl) opens49 (by kernel_rfl) (by kernel_rfl)) h1 hsz (j := 1) rfl rfl
  obtain ⟨a1, len1, cap1, rfl⟩ := okWide_slice Try.underlying42 (hval 1 42 v1 rfl rfl)
  obtain ⟨A1, c1, hcs1, hc1, hr1⟩ := hK1
  have hcs1' : ([Value.slice a1 len1 cap1] : List Value) = [.slice A1 x1.length c1] := hcs1
  injection hcs1' with hcs1' _
  injection hcs1' with e1_ e2_ e3_
  subst e1_ e2_ e3_
  refine (Qw.netFates.walk (w := W) (x0 := x0) (hr0 := hr0) (hc0 := hc0) (w0 := w0) (x1 := x1) (hr1 := hr1) (hc1 := hc1) (w1 := w1)).mono fun e W' ⟨he, bel⟩ => ?_
  subst he
  exact ⟨_, rfl, _, _, _, [], _, [], hW', trodAll_mk1 (shut_bool Try.underlying4 _), (trodAll_cons_mk (Below.trod laidOut (by kernel_rfl) (of_decide_eq_true (by kernel_rfl)) k0 bel lt0) (trodAll_cons_mk (Below.trod laidOut (by kernel_rfl) (of_decide_eq_true (by kernel_rfl)) k1 bel lt1) trodAll_mk0)), rfl, bel.frame _, fun h => by cases h⟩
theorem over : Rows.netFatesRow.holds Try.pinned (OpenSpec.ofChange Rows.netFatesSpec) :=
  OpenClaim.holds_of_wide 6 Try.f6 rfl rfl rfl rfl rfl rfl rfl ⟨rfl, rfl, rfl, rfl, rfl⟩ rfl rfl rfl rfl rfl (by kernel_rfl) Try.func6 (by kernel_rfl)
    (of_decide_eq_true (by kernel_rfl)) (by unfold Func.isWrapper; first | (rw [if_pos (by decide +kernel)]; kernel_rfl) | (rw [if_neg (by decide +kernel)]; exact ⟨rfl, rfl⟩))
    (fun os started H enc _ => lifted os started H enc)
theorem proved : Rows.NetFatesSaid := over
#print axioms proved
end Go.Proofs.Ytghkngdcmlhmeaa.netFates
namespace Go.Proofs.Ytghkngdcmlhmeaa
/-- The row, under a short name, for the claim. -/
theorem netFates_holds : Rows.NetFatesSaid := netFates.proved
end Go.Proofs.Ytghkngdcmlhmeaa

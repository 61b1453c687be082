/- The row of NetQuiet. -/
import Derived.Test.YtghkngdcmlhmeaaRows
import Derived.Test.YtghkngdcmlhmeaaOpens
import Derived.Test.YtghkngdcmlhmeaaQQuiet
import Derived.WalkKit
import Derived.ProofKit
import Derived.OpenShut
import Derived.ShutString
import Derived.ChangeOld
import Derived.Below
import Derived.SizedLaws
import Derived.Carry
set_option linter.unusedVariables false
set_option linter.unusedSimpArgs false
set_option linter.unusedSectionVars false
namespace Go.Proofs.Ytghkngdcmlhmeaa.netQuiet
open Go.ChangeShapes Go.WideShapes Go.ChangeAt Go.RowKit Go.Proofs.Ytghkngdcmlhmeaa.PQu Go.Proofs.YtghkngdcmlhmeaaW.PrintWords Go.Proofs.YtghkngdcmlhmeaaW.PrintLast
open Go.ChangeMaps (open_string shut_string)
theorem own : ownKnob Try.prog.godebug = none := by kernel_rfl
theorem laidOut : laidOutB Try.prog = true := by kernel_rfl
theorem opens25 : Ops.Opens Try.prog 25 k25 Qw.wf25 := by
  have h := Ops.opens_struct Try.underlying25 (Ops.OpensL.cons (Ops.opens_int (k := .i64) (by kernel_rfl)) rfl (by kernel_rfl) rfl (Ops.OpensL.cons (Ops.opens_int (k := .i64) (by kernel_rfl)) rfl (by kernel_rfl) rfl (Ops.OpensL.cons (Ops.opens_int (k := .i64) (by kernel_rfl)) rfl (by kernel_rfl) rfl (Ops.OpensL.one (Ops.opens_slice (e := 5) (B := 1) (by kernel_rfl) (Ops.opens_int (k := .u8) (by kernel_rfl)) (by kernel_rfl) (by kernel_rfl)) rfl (by kernel_rfl))))) (by kernel_rfl)
  have h2 := Ops.Opens.iso h (fun x : S25 => (x.f0, x.f1, x.f2, x.f3)) (fun p => ⟨p.1, p.2.1, p.2.2.1, p.2.2.2⟩) (fun _ => rfl)
  exact h2
set_option maxRecDepth 100000 in
theorem lifted (os : Os) (started : os.Started) (H : Type) (enc : TypeId × Value → H) :
    ReturnsInHanded {} Try.checked os 7 .any (Rows.netQuietSpec.pre6 enc Try.prog Try.f7 Rows.netQuietRow.domain false) (Rows.netQuietSpec.post enc Try.prog Try.f7 false true false false) := by
  refine returnsInHanded_of_change_sized (C := Try.checked) own started (by kernel_rfl) Try.func7
    (ChangeSpec.witness6 (enc := enc) (C := Try.checked) false ⟨#[], #[.slice none 0 0, .int .u8 0], []⟩ 12 (by kernel_rfl) (by kernel_rfl) (by kernel_rfl) (by kernel_rfl)) ?_
  intro W base args ds gs before hval0 hW hcnd hsz0 _
  have hsz : (DataW.weightsEach Try.prog (Try.f7.params.toList ++ Rows.netQuietSpec.plain.varTypes Try.prog) (ds ++ gs)).all (· ≤ reachBytes) = true := hsz0
  have hval : ∀ (j : Nat) t v, Try.f7.params[j]? = some t → args[j]? = some v → Value.okWide Try.prog W .any base t v := hval0
  have hW' := hW
  obtain ⟨p, q, hA0, hV, rfl, hfz, hnd⟩ := hW
  have hA : DataW.TrodAll enc Try.prog W 0 (fun _ => true) true Try.f7.params.toList args.toList ds p := hA0
  rw [Try.params7] at hA hval hsz
  obtain ⟨v0, vs0, d0, ds0, p0, q0, hargs, rfl, rfl, h0, r0⟩ := trodAll_cons hA
  obtain ⟨v1, vs1, d1, ds1, p1, q1, rfl, rfl, rfl, h1, r1⟩ := trodAll_cons r0
  obtain ⟨rfl, rfl, rfl⟩ := trodAll_nil r1
  obtain rfl : args = #[v0, v1] := by cases args; simp_all
  obtain ⟨rfl, rfl⟩ := trodVars_none hV
  have k0 := h0
  have lt0 : ∀ x ∈ p0, x.block < W.heap.size := by obtain ⟨m, hm⟩ := k0; exact DataW.trod_lt m _ _ _ hm
  obtain ⟨x0, hK0, w0⟩ := Ops.open_arg (Ops.opens_slice (e := 25) (B := 48) (by kernel_rfl) opens25 (by kernel_rfl) (by kernel_rfl)) h0 hsz (j := 0) rfl rfl
  obtain ⟨a0, len0, cap0, rfl⟩ := okWide_slice Try.underlying22 (hval 0 22 v0 rfl rfl)
  obtain ⟨A0, c0, hcs0, hc0, hr0⟩ := hK0
  have hcs0' : ([Value.slice a0 len0 cap0] : List Value) = [.slice A0 x0.length c0] := hcs0
  injection hcs0' with hcs0' _
  injection hcs0' with e1_ e2_ e3_
  subst e1_ e2_ e3_
  obtain ⟨a1, rfl, rfl, rfl, w1⟩ := open_int Try.underlying5 (hval 1 5 v1 rfl rfl) h1
  refine (Qw.netQuiet.walk (w := W) (x0 := x0) (hr0 := hr0) (hc0 := hc0) (w0 := w0) (a1 := a1) (w1 := w1)).mono fun e W' ⟨he, bel⟩ => ?_
  subst he
  exact ⟨_, rfl, _, _, _, [], _, [], hW', trodAll_mk1 (shut_bool Try.underlying4 _), (trodAll_cons_mk (Below.trod laidOut (by kernel_rfl) (of_decide_eq_true (by kernel_rfl)) k0 bel lt0) (trodAll_cons_mk (shut_int Try.underlying5 w1) trodAll_mk0)), rfl, bel.frame _, fun h => by cases h⟩
theorem over : Rows.netQuietRow.holds Try.pinned (OpenSpec.ofChange Rows.netQuietSpec) :=
  OpenClaim.holds_of_wide 7 Try.f7 rfl rfl rfl rfl rfl rfl rfl ⟨rfl, rfl, rfl, rfl, rfl⟩ rfl rfl rfl rfl rfl (by kernel_rfl) Try.func7 (by kernel_rfl)
    (of_decide_eq_true (by kernel_rfl)) (by unfold Func.isWrapper; first | (rw [if_pos (by decide +kernel)]; kernel_rfl) | (rw [if_neg (by decide +kernel)]; exact ⟨rfl, rfl⟩))
    (fun os started H enc _ => lifted os started H enc)
theorem proved : Rows.NetQuietSaid := over
#print axioms proved
end Go.Proofs.Ytghkngdcmlhmeaa.netQuiet
namespace Go.Proofs.Ytghkngdcmlhmeaa
/-- The row, under a short name, for the claim. -/
theorem netQuiet_holds : Rows.NetQuietSaid := netQuiet.proved
end Go.Proofs.Ytghkngdcmlhmeaa

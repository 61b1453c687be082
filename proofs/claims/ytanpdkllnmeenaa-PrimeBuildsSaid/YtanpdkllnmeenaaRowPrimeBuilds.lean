/- The row of PrimeBuilds: whatever the input, the law returns true, and the arguments read as they did. -/
import Derived.Test.YtanpdkllnmeenaaRows
import Derived.WalkKit
import Derived.ProofKit
import Derived.OpenShut
import Derived.ShutString
import Derived.ChangeOld
import Derived.Below
import Derived.SizedLaws
import Derived.Carry
import Derived.Test.YtanpdkllnmeenaaAmc
import Derived.Test.YtanpdkllnmeenaaSpb
import Derived.Test.YtanpdkllnmeenaaSpa
namespace Go.Proofs.Ytanpdkllnmeenaa.primeBuilds
open Go Go.ChangeShapes Go.WideShapes Go.ChangeAt Go.RowKit Go.Proofs Go.Proofs.Ytanpdkllnmeenaa.Am Go.Proofs.Ytanpdkllnmeenaa Go.Proofs.Ytanpdkllnmeenaa.M
set_option linter.unusedVariables false
theorem own : ownKnob Try.prog.godebug = none := by kernel_rfl
theorem laidOut : laidOutB Try.prog = true := by kernel_rfl
theorem wf_nat {n : Int} (h : (Lit.int .u64 n).wf = true) : 0 ≤ n := by
  simp only [Lit.wf, Bool.and_eq_true, decide_eq_true_eq] at h
  have : IntKind.min .u64 = 0 := rfl
  omega
theorem wf_u64 {n : Int} (h : (Lit.int .u64 n).wf = true) : n < 18446744073709551616 := by
  simp only [Lit.wf, Bool.and_eq_true, decide_eq_true_eq] at h
  have : IntKind.max .u64 = 18446744073709551615 := rfl
  omega
theorem wf_lt {n : Int} (h : (Lit.int .i64 n).wf = true) : n < 9223372036854775808 := by
  simp only [Lit.wf, Bool.and_eq_true, decide_eq_true_eq] at h
  have : IntKind.max .i64 = 9223372036854775807 := rfl
  omega
theorem wf_u8 {n : Int} (h : (Lit.int .u8 n).wf = true) : 0 ≤ n ∧ n < 256 := by
  simp only [Lit.wf, Bool.and_eq_true, decide_eq_true_eq] at h
  have h1 : IntKind.max .u8 = 255 := rfl
  have h2 : IntKind.min .u8 = 0 := rfl
  omega
set_option maxRecDepth 100000 in
theorem lifted (os : Os) (started : os.Started) (H : Type) (enc : TypeId × Value → H) :
    ReturnsInHanded {} Try.checked os 5 .any (Rows.primeBuildsSpec.pre6 enc Try.prog Try.f5 Rows.primeBuildsRow.domain false) (Rows.primeBuildsSpec.post enc Try.prog Try.f5 false true false false) := by
  refine returnsInHanded_of_change_sized (C := Try.checked) own started (by kernel_rfl) Try.func5
    (ChangeSpec.witness6 (enc := enc) (C := Try.checked) false ⟨#[], #[.int .u64 0], []⟩ 12 (by kernel_rfl) (by kernel_rfl) (by kernel_rfl) (by kernel_rfl)) ?_
  intro W base args ds gs before hval0 hW hcnd hsz0 _
  have hsz : (DataW.weightsEach Try.prog (Try.f5.params.toList ++ Rows.primeBuildsSpec.plain.varTypes Try.prog) (ds ++ gs)).all (· ≤ reachBytes) = true := hsz0
  have hval : ∀ (j : Nat) t v, Try.f5.params[j]? = some t → args[j]? = some v → Value.okWide Try.prog W .any base t v := hval0
  have hW' := hW
  obtain ⟨p, q, hA0, hV, rfl, hfz, hnd⟩ := hW
  have hA : DataW.TrodAll enc Try.prog W 0 (fun _ => true) true Try.f5.params.toList args.toList ds p := hA0
  rw [Try.params5] at hA hval hsz
  obtain ⟨v0, vs0, d0, ds0, p0, q0, hargs, rfl, rfl, h0, r0⟩ := trodAll_cons hA
  obtain ⟨rfl, rfl, rfl⟩ := trodAll_nil r0
  obtain rfl : args = #[v0] := by cases args; simp_all
  obtain ⟨rfl, rfl⟩ := trodVars_none hV
  have k0 := h0
  have lt0 : ∀ x ∈ p0, x.block < W.heap.size := by obtain ⟨m, hm⟩ := k0; exact DataW.trod_lt m _ _ _ hm
  obtain ⟨a0, hK0, w0⟩ := arg_open (deep_ok (n := 12) (T := .int .u64) (t := 23) (by kernel_rfl)) h0 hsz (j := 0) rfl rfl
  obtain ⟨n0, e0⟩ := okWide_int Try.underlying23 (hval 0 23 v0 rfl rfl)
  have rp0 := arg_rep (T := .int .u64) hK0 (show ∀ cs, v0 ≠ .agg cs from fun cs h => by rw [e0] at h; cases h)
  refine (law_true affidavitlaw02_PrimeBuilds.E cxOk rfl goOk prOk Try.func5 (c := (Try.f5.body).getD .skip) (by kernel_rfl) rfl rfl rfl (k := 16777501) (a := ((a0, ()), ())) (b := true) rfl (fun {R} ret => primeBuilds_true (wf_nat w0) (fun y => ret y)) (.cons rp0 .nil)).mono fun e W' ⟨he, bel⟩ => ?_
  subst he
  exact ⟨_, rfl, _, _, _, [], _, [], hW', trodAll_mk1 (shut_bool Try.underlying4 _), (trodAll_cons_mk (Below.trod laidOut (by kernel_rfl) (of_decide_eq_true (by kernel_rfl)) k0 bel lt0) trodAll_mk0), rfl, bel.frame _, fun h => by cases h⟩
theorem over : Rows.primeBuildsRow.holds Try.pinned (OpenSpec.ofChange Rows.primeBuildsSpec) :=
  OpenClaim.holds_of_wide 5 Try.f5 rfl rfl rfl rfl rfl rfl rfl ⟨rfl, rfl, rfl, rfl, rfl⟩ rfl rfl rfl rfl rfl (by kernel_rfl) Try.func5 (by kernel_rfl)
    (of_decide_eq_true (by kernel_rfl)) (by unfold Func.isWrapper; first | (rw [if_pos (by decide +kernel)]; kernel_rfl) | (rw [if_neg (by decide +kernel)]; exact ⟨rfl, rfl⟩))
    (fun os started H enc _ => lifted os started H enc)
theorem proved : Rows.PrimeBuildsSaid := over
#print axioms proved
end Go.Proofs.Ytanpdkllnmeenaa.primeBuilds
namespace Go.Proofs.Ytanpdkllnmeenaa
/-- The row, under a short name, for the claim. -/
theorem primeBuilds_holds : Rows.PrimeBuildsSaid := primeBuilds.proved
end Go.Proofs.Ytanpdkllnmeenaa

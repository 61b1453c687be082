/- The row of PrimeCut: whatever the input, the law returns true, and the arguments read as they did. -/
import Derived.Test.YtanpdkllnmeenaaRows
import Derived.WalkKit
import Derived.ProofKit
import Derived.OpenShut
import Derived.ShutString
import Derived.ChangeOld
import Derived.Below
import Derived.SizedLaws
import Derived.Carry
import Derived.Test.YtanpdkllnmeenaaAmRow
import Derived.Test.YtanpdkllnmeenaaAmCutLaw
import Derived.Test.YtanpdkllnmeenaaAmPrOk
namespace Go.Proofs.Ytanpdkllnmeenaa.primeCut
open Go Go.ChangeShapes Go.WideShapes Go.ChangeAt Go.RowKit Go.Proofs Go.Proofs.Ytanpdkllnmeenaa.Am Go.Proofs.Ytanpdkllnmeenaa Go.Proofs.Ytanpdkllnmeenaa.M
set_option linter.unusedVariables false
theorem own : ownKnob Try.prog.godebug = none := by kernel_rfl
theorem laidOut : laidOutB Try.prog = true := by kernel_rfl
theorem wf_nat {n : Int} (h : (Lit.int .u64 n).wf = true) : 0 ≤ n := by
  simp only [Lit.wf, Bool.and_eq_true, decide_eq_true_eq] at h
  have : IntKind.min .u64 = 0 := rfl
  omega
theorem wf_u64 {n : Int} (h : (Lit.int .u64 n).wf = true) : n < 18446744073709551616 := by
  simp only [Lit.wf, Bool.and_eq_true, decide_eq_true_eq] at h
  have : IntKind.max .u64 = 18446744073709551615 := rfl
  omega
theorem wf_lt {n : Int} (h : (Lit.int .i64 n).wf = true) : n < 9223372036854775808 := by
  simp only [Lit.wf, Bool.and_eq_true, decide_eq_true_eq] at h
  have : IntKind.max .i64 = 9223372036854775807 := rfl
  omega
theorem wf_u8 {n : Int} (h : (Lit.int .u8 n).wf = true) : 0 ≤ n ∧ n < 256 := by
  simp only [Lit.wf, Bool.and_eq_true, decide_eq_true_eq] at h
  have h1 : IntKind.max .u8 = 255 := rfl
  have h2 : IntKind.min .u8 = 0 := rfl
  omega
set_option maxRecDepth 100000 in
theorem lifted (os : Os) (started : os.Started) (H : Type) (enc : TypeId × Value → H) :
    ReturnsInHanded {} Try.checked os 6 .any (Rows.primeCutSpec.pre6 enc Try.prog Try.f6 Rows.primeCutRow.domain false) (Rows.primeCutSpec.post enc Try.prog Try.f6 false true false false) := by
  refine returnsInHanded_of_change_sized (C := Try.checked) own started (by kernel_rfl) Try.func6
    (ChangeSpec.witness6 (enc := enc) (C := Try.checked) false ⟨#[], #[.slice none 0 0, .int .u8 0], []⟩ 12 (by kernel_rfl) (by kernel_rfl) (by kernel_rfl) (by kernel_rfl)) ?_
  intro W base args ds gs before hval0 hW hcnd hsz0 _
  have hsz : (DataW.weightsEach Try.prog (Try.f6.params.toList ++ Rows.primeCutSpec.plain.varTypes Try.prog) (ds ++ gs)).all (· ≤ reachBytes) = true := hsz0
  have hval : ∀ (j : Nat) t v, Try.f6.params[j]? = some t → args[j]? = some v → Value.okWide Try.prog W .any base t v := hval0
  have hW' := hW
  obtain ⟨p, q, hA0, hV, rfl, hfz, hnd⟩ := hW
  have hA : DataW.TrodAll enc Try.prog W 0 (fun _ => true) true Try.f6.params.toList args.toList ds p := hA0
  rw [Try.params6] at hA hval hsz
  obtain ⟨v0, vs0, d0, ds0, p0, q0, hargs, rfl, rfl, h0, r0⟩ := trodAll_cons hA
  obtain ⟨v1, vs1, d1, ds1, p1, q1, rfl, rfl, rfl, h1, r1⟩ := trodAll_cons r0
  obtain ⟨rfl, rfl, rfl⟩ := trodAll_nil r1
  obtain rfl : args = #[v0, v1] := by cases args; simp_all
  obtain ⟨rfl, rfl⟩ := trodVars_none hV
  have k0 := h0
  have lt0 : ∀ x ∈ p0, x.block < W.heap.size := by obtain ⟨m, hm⟩ := k0; exact DataW.trod_lt m _ _ _ hm
  obtain ⟨a0, hK0, w0⟩ := arg_open (deep_ok (n := 12) (T := .sl tProof) (t := 22) (by kernel_rfl)) h0 hsz (j := 0) rfl rfl
  obtain ⟨A0, l0, c0, e0⟩ := okWide_slice Try.underlying22 (hval 0 22 v0 rfl rfl)
  have rp0 := arg_rep (T := .sl tProof) hK0 (show ∀ cs, v0 ≠ .agg cs from fun cs h => by rw [e0] at h; cases h)
  have k1 := h1
  have lt1 : ∀ x ∈ p1, x.block < W.heap.size := by obtain ⟨m, hm⟩ := k1; exact DataW.trod_lt m _ _ _ hm
  obtain ⟨a1, hK1, w1⟩ := arg_open (deep_ok (n := 12) (T := .int .u8) (t := 5) (by kernel_rfl)) h1 hsz (j := 1) rfl rfl
  obtain ⟨n1, e1⟩ := okWide_int Try.underlying5 (hval 1 5 v1 rfl rfl)
  have rp1 := arg_rep (T := .int .u8) hK1 (show ∀ cs, v1 ≠ .agg cs from fun cs h => by rw [e1] at h; cases h)
  refine (law_true affidavitlaw02_PrimeCut.E cxOk rfl goOk prOk Try.func6 (c := (Try.f6.body).getD .skip) (by kernel_rfl) rfl rfl rfl (k := (a0.length + 600)) (a := ((a0, (a1, ())), ())) (b := true) rfl (fun {R} ret => primeCut_true (l := a0) (at_ := a1) (by have h : a0.length ≤ 140737488351232 := w0.1; omega) (wf_u8 w1).1 (wf_u8 w1).2 (fun y => ret y)) (.cons rp0 (.cons rp1 .nil))).mono fun e W' ⟨he, bel⟩ => ?_
  subst he
  exact ⟨_, rfl, _, _, _, [], _, [], hW', trodAll_mk1 (shut_bool Try.underlying4 _), (trodAll_cons_mk (Below.trod laidOut (by kernel_rfl) (of_decide_eq_true (by kernel_rfl)) k0 bel lt0) (trodAll_cons_mk (Below.trod laidOut (by kernel_rfl) (of_decide_eq_true (by kernel_rfl)) k1 bel lt1) trodAll_mk0)), rfl, bel.frame _, fun h => by cases h⟩
theorem over : Rows.primeCutRow.holds Try.pinned (OpenSpec.ofChange Rows.primeCutSpec) :=
  OpenClaim.holds_of_wide 6 Try.f6 rfl rfl rfl rfl rfl rfl rfl ⟨rfl, rfl, rfl, rfl, rfl⟩ rfl rfl rfl rfl rfl (by kernel_rfl) Try.func6 (by kernel_rfl)
    (of_decide_eq_true (by kernel_rfl)) (by unfold Func.isWrapper; first | (rw [if_pos (by decide +kernel)]; kernel_rfl) | (rw [if_neg (by decide +kernel)]; exact ⟨rfl, rfl⟩))
    (fun os started H enc _ => lifted os started H enc)
theorem proved : Rows.PrimeCutSaid := over
#print axioms proved
end Go.Proofs.Ytanpdkllnmeenaa.primeCut
namespace Go.Proofs.Ytanpdkllnmeenaa
/-- The row, under a short name, for the claim. -/
theorem primeCut_holds : Rows.PrimeCutSaid := primeCut.proved
end Go.Proofs.Ytanpdkllnmeenaa

/- The row of PrimeShown: whatever the input, the law returns true, and the arguments read as they did. -/
import Derived.Test.YtanpdkllnmeenaaRows
import Derived.WalkKit
import Derived.ProofKit
import Derived.OpenShut
import Derived.ShutString
import Derived.ChangeOld
import Derived.Below
import Derived.SizedLaws
import Derived.Carry
import Derived.Test.YtanpdkllnmeenaaAmRow
import Derived.Test.YtanpdkllnmeenaaAmShownLaw
namespace Go.Proofs.Ytanpdkllnmeenaa.primeShown
open Go Go.ChangeShapes Go.WideShapes Go.ChangeAt Go.RowKit Go.Proofs Go.Proofs.Ytanpdkllnmeenaa.Am Go.Proofs.Ytanpdkllnmeenaa Go.Proofs.Ytanpdkllnmeenaa.M
set_option linter.unusedVariables false
theorem own : ownKnob Try.prog.godebug = none := by kernel_rfl
theorem laidOut : laidOutB Try.prog = true := by kernel_rfl
theorem wf_nat {n : Int} (h : (Lit.int .u64 n).wf = true) : 0 ≤ n := by
  simp only [Lit.wf, Bool.and_eq_true, decide_eq_true_eq] at h
  have : IntKind.min .u64 = 0 := rfl
  omega
theorem wf_u64 {n : Int} (h : (Lit.int .u64 n).wf = true) : n < 18446744073709551616 := by
  simp only [Lit.wf, Bool.and_eq_true, decide_eq_true_eq] at h
  have : IntKind.max .u64 = 18446744073709551615 := rfl
  omega
theorem wf_lt {n : Int} (h : (Lit.int .i64 n).wf = true) : n < 9223372036854775808 := by
  simp only [Lit.wf, Bool.and_eq_true, decide_eq_true_eq] at h
  have : IntKind.max .i64 = 9223372036854775807 := rfl
  omega
theorem prOk : PrimsOk Try.prog pr := by
  intro g f vs r h1 h2
  have h : ∀ (l : List (Nat × (List AV → Option AV))), (∀ p ∈ l, p.2 = fun _ => none) → Am.look l g = some f → f = fun _ => none := by
    intro l
    induction l with
    | nil => intro _ h; cases h
    | cons p l ih =>
      intro hl h
      unfold Am.look at h
      split at h
      · injection h with h; rw [← h]; exact hl p (List.mem_cons_self ..)
      · exact ih (fun q hq => hl q (List.mem_cons_of_mem _ hq)) h
  rw [h _ (by intro p hp; simp only [List.mem_cons, List.not_mem_nil, or_false] at hp; rcases hp with rfl | rfl | rfl <;> rfl) h1] at h2
  cases h2
set_option maxRecDepth 100000 in
theorem lifted (os : Os) (started : os.Started) (H : Type) (enc : TypeId × Value → H) :
    ReturnsInHanded {} Try.checked os 8 .any (Rows.primeShownSpec.pre6 enc Try.prog Try.f8 Rows.primeShownRow.domain false) (Rows.primeShownSpec.post enc Try.prog Try.f8 false true false false) := by
  refine returnsInHanded_of_change_sized (C := Try.checked) own started (by kernel_rfl) Try.func8
    (ChangeSpec.witness6 (enc := enc) (C := Try.checked) false ⟨#[], #[.slice none 0 0, .int .u64 0], []⟩ 12 (by kernel_rfl) (by kernel_rfl) (by kernel_rfl) (by kernel_rfl)) ?_
  intro W base args ds gs before hval0 hW hcnd hsz0 _
  have hsz : (DataW.weightsEach Try.prog (Try.f8.params.toList ++ Rows.primeShownSpec.plain.varTypes Try.prog) (ds ++ gs)).all (· ≤ reachBytes) = true := hsz0
  have hval : ∀ (j : Nat) t v, Try.f8.params[j]? = some t → args[j]? = some v → Value.okWide Try.prog W .any base t v := hval0
  have hW' := hW
  obtain ⟨p, q, hA0, hV, rfl, hfz, hnd⟩ := hW
  have hA : DataW.TrodAll enc Try.prog W 0 (fun _ => true) true Try.f8.params.toList args.toList ds p := hA0
  rw [Try.params8] at hA hval hsz
  obtain ⟨v0, vs0, d0, ds0, p0, q0, hargs, rfl, rfl, h0, r0⟩ := trodAll_cons hA
  obtain ⟨v1, vs1, d1, ds1, p1, q1, rfl, rfl, rfl, h1, r1⟩ := trodAll_cons r0
  obtain ⟨rfl, rfl, rfl⟩ := trodAll_nil r1
  obtain rfl : args = #[v0, v1] := by cases args; simp_all
  obtain ⟨rfl, rfl⟩ := trodVars_none hV
  have k0 := h0
  have lt0 : ∀ x ∈ p0, x.block < W.heap.size := by obtain ⟨m, hm⟩ := k0; exact DataW.trod_lt m _ _ _ hm
  obtain ⟨a0, hK0, w0⟩ := arg_open (deep_ok (n := 12) (T := .sl tProof) (t := 22) (by kernel_rfl)) h0 hsz (j := 0) rfl rfl
  obtain ⟨A0, l0, c0, e0⟩ := okWide_slice Try.underlying22 (hval 0 22 v0 rfl rfl)
  have rp0 := arg_rep (T := .sl tProof) hK0 (show ∀ cs, v0 ≠ .agg cs from fun cs h => by rw [e0] at h; cases h)
  have k1 := h1
  have lt1 : ∀ x ∈ p1, x.block < W.heap.size := by obtain ⟨m, hm⟩ := k1; exact DataW.trod_lt m _ _ _ hm
  obtain ⟨a1, hK1, w1⟩ := arg_open (deep_ok (n := 12) (T := .int .u64) (t := 23) (by kernel_rfl)) h1 hsz (j := 1) rfl rfl
  obtain ⟨n1, e1⟩ := okWide_int Try.underlying23 (hval 1 23 v1 rfl rfl)
  have rp1 := arg_rep (T := .int .u64) hK1 (show ∀ cs, v1 ≠ .agg cs from fun cs h => by rw [e1] at h; cases h)
  refine (law_true affidavitlaw02_PrimeShown.E cxOk rfl goOk prOk Try.func8 (c := (Try.f8.body).getD .skip) (by kernel_rfl) rfl rfl rfl (k := 65701) (a := ((a0, (a1, ())), ())) (b := true) rfl (fun {R} ret => primeShown_true (l := a0) (a := a1) (by have h : a0.length ≤ 140737488351232 := w0.1; omega) (wf_nat w1) (wf_u64 w1) (fun y => ret y)) (.cons rp0 (.cons rp1 .nil))).mono fun e W' ⟨he, bel⟩ => ?_
  subst he
  exact ⟨_, rfl, _, _, _, [], _, [], hW', trodAll_mk1 (shut_bool Try.underlying4 _), (trodAll_cons_mk (Below.trod laidOut (by kernel_rfl) (of_decide_eq_true (by kernel_rfl)) k0 bel lt0) (trodAll_cons_mk (Below.trod laidOut (by kernel_rfl) (of_decide_eq_true (by kernel_rfl)) k1 bel lt1) trodAll_mk0)), rfl, bel.frame _, fun h => by cases h⟩
theorem over : Rows.primeShownRow.holds Try.pinned (OpenSpec.ofChange Rows.primeShownSpec) :=
  OpenClaim.holds_of_wide 8 Try.f8 rfl rfl rfl rfl rfl rfl rfl ⟨rfl, rfl, rfl, rfl, rfl⟩ rfl rfl rfl rfl rfl (by kernel_rfl) Try.func8 (by kernel_rfl)
    (of_decide_eq_true (by kernel_rfl)) (by unfold Func.isWrapper; first | (rw [if_pos (by decide +kernel)]; kernel_rfl) | (rw [if_neg (by decide +kernel)]; exact ⟨rfl, rfl⟩))
    (fun os started H enc _ => lifted os started H enc)
theorem proved : Rows.PrimeShownSaid := over
#print axioms proved
end Go.Proofs.Ytanpdkllnmeenaa.primeShown
namespace Go.Proofs.Ytanpdkllnmeenaa
/-- The row, under a short name, for the claim. -/
theorem primeShown_holds : Rows.PrimeShownSaid := primeShown.proved
end Go.Proofs.Ytanpdkllnmeenaa

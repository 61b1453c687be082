/- The law is awake: fixed answers. -/
import Derived.Test.YtanpdkllnmeenaaAmRight
namespace Go.Proofs.Ytanpdkllnmeenaa.M
set_option linter.unusedVariables false
set_option maxRecDepth 100000
open Go Go.RowKit Go.Proofs Go.Proofs.Ytanpdkllnmeenaa.Am

theorem parts12 {R : Type} (ret : List (Int × Int) → Int → Option R) : prime_Parts.f 499 12 ret = ret [(2, 2), (3, 1)] 0 := by kernel_rfl
theorem small65537 {R : Type} (ret : Bool → Option R) : prime_Small.f 499 65537 ret = ret true := by kernel_rfl
theorem first7 {R : Type} (ret : Int → Option R) : prime_First.f 499 [(3, 2, [(2, 1)]), (7, 3, [(2, 1), (3, 1)])] ret = ret 2 := by kernel_rfl
theorem build7_0 {R : Type} (x0 : Int → List (Int × Int × List (Int × Int)) → Option R) (x1 : List (Unit × Int × Int × Int × List (Int × Int)) → Option R) : prime_Build.L0 498 x0 x1 498 [] [7] = x1 [((), 7, 7, 3, [(2, 1), (3, 1)]), ((), 3, 3, 2, [(2, 1)])] := by kernel_rfl
theorem build9_0 {R : Type} (x0 : Int → List (Int × Int × List (Int × Int)) → Option R) (x1 : List (Unit × Int × Int × Int × List (Int × Int)) → Option R) : prime_Build.L0 498 x0 x1 498 [] [9] = x0 6 [] := by kernel_rfl
theorem sort37 {R : Type} (ret : List (Int × Int × List (Int × Int)) → Option R) : slices_SortFunc.f 498 [(3, 2, [(2, 1)]), (7, 3, [(2, 1), (3, 1)])] ret = ret [(3, 2, [(2, 1)]), (7, 3, [(2, 1), (3, 1)])] := by kernel_rfl
theorem sort73 {R : Type} (ret : List (Int × Int × List (Int × Int)) → Option R) : slices_SortFunc.f 498 [(7, 3, [(2, 1), (3, 1)]), (3, 2, [(2, 1)])] ret = ret [(3, 2, [(2, 1)]), (7, 3, [(2, 1), (3, 1)])] := by kernel_rfl
theorem pick_nil {V R : Type} {es : List (Unit × Int × V)} {seen : List Nat} {over : Option R} {f : Nat → (Unit × Int × V) → Option R} (h : ((cands es.length seen).filterMap fun i => (es[i]?).map fun x => (i, x)) = []) : pickAll es seen over f = over := by
  unfold pickAll; rw [h]
theorem pick_cons {V R : Type} {es : List (Unit × Int × V)} {seen : List Nat} {over : Option R} {f : Nat → (Unit × Int × V) → Option R} {p : Nat × (Unit × Int × V)} {r : List (Nat × (Unit × Int × V))} (h : ((cands es.length seen).filterMap fun i => (es[i]?).map fun x => (i, x)) = p :: r) (hr : ∀ q ∈ r, f q.1 q.2 = f p.1 p.2) : pickAll es seen over f = f p.1 p.2 := by
  unfold pickAll; rw [h]; exact if_pos hr
abbrev m73 : List (Unit × Int × Int × Int × List (Int × Int)) := [((), 7, 7, 3, [(2, 1), (3, 1)]), ((), 3, 3, 2, [(2, 1)])]
theorem l4_two {R : Type} (x0 : List (Int × Int × List (Int × Int)) → Option R) (out : List (Int × Int × List (Int × Int))) (s : List Nat) (hs : s = [0, 1] ∨ s = [1, 0]) : prime_Build.L4 498 x0 496 out m73 s = x0 out := by
  show prime_Build.B4 498 x0 _ out m73 s = _
  unfold prime_Build.B4
  rcases hs with rfl | rfl
  · exact pick_nil (by kernel_rfl)
  · exact pick_nil (by kernel_rfl)
theorem l4_01 {R : Type} (x0 : List (Int × Int × List (Int × Int)) → Option R) : prime_Build.L4 498 x0 497 [(7, 3, [(2, 1), (3, 1)])] m73 [0] = x0 [(7, 3, [(2, 1), (3, 1)]), (3, 2, [(2, 1)])] := by
  show prime_Build.B4 498 x0 (prime_Build.L4 498 x0 496) _ m73 [0] = _
  unfold prime_Build.B4
  rw [pick_cons (p := (1, ((), 3, 3, 2, [(2, 1)]))) (r := []) (by kernel_rfl) (by simp)]
  exact l4_two x0 _ [0, 1] (.inl rfl)
theorem l4_10 {R : Type} (x0 : List (Int × Int × List (Int × Int)) → Option R) : prime_Build.L4 498 x0 497 [(3, 2, [(2, 1)])] m73 [1] = x0 [(3, 2, [(2, 1)]), (7, 3, [(2, 1), (3, 1)])] := by
  show prime_Build.B4 498 x0 (prime_Build.L4 498 x0 496) _ m73 [1] = _
  unfold prime_Build.B4
  rw [pick_cons (p := (0, ((), 7, 7, 3, [(2, 1), (3, 1)]))) (r := []) (by kernel_rfl) (by simp)]
  exact l4_two x0 _ [1, 0] (.inr rfl)
theorem l4_all {R : Type} (x0 : List (Int × Int × List (Int × Int)) → Option R) (h : x0 [(3, 2, [(2, 1)]), (7, 3, [(2, 1), (3, 1)])] = x0 [(7, 3, [(2, 1), (3, 1)]), (3, 2, [(2, 1)])]) : prime_Build.L4 498 x0 498 [] m73 [] = x0 [(7, 3, [(2, 1), (3, 1)]), (3, 2, [(2, 1)])] := by
  show prime_Build.B4 498 x0 (prime_Build.L4 498 x0 497) _ m73 [] = _
  unfold prime_Build.B4
  refine (pick_cons (p := (0, ((), 7, 7, 3, [(2, 1), (3, 1)]))) (r := [(1, ((), 3, 3, 2, [(2, 1)]))]) (by kernel_rfl) ?_).trans ?_
  · intro q hq
    rw [List.mem_singleton] at hq
    subst hq
    refine Eq.trans (b := prime_Build.L4 498 x0 497 [(3, 2, [(2, 1)])] m73 [1]) (by kernel_rfl) ((l4_10 x0).trans (h.trans ((l4_01 x0).symm.trans ?_)))
    kernel_rfl
  · exact Eq.trans (b := prime_Build.L4 498 x0 497 [(7, 3, [(2, 1), (3, 1)])] m73 [0]) (by kernel_rfl) (l4_01 x0)
theorem build7_r {R : Type} (ret : List (Int × Int × List (Int × Int)) → Int → Option R) : prime_Build.r 499 7 ret = ret [(3, 2, [(2, 1)]), (7, 3, [(2, 1), (3, 1)])] 0 := by
  rw [show (499 : Nat) = 498 + 1 from rfl, prime_Build.r, dF (by omega), dF (by omega), build7_0, l4_all, sort73]
  rw [sort37, sort73]
theorem build9_r {R : Type} (ret : List (Int × Int × List (Int × Int)) → Int → Option R) : prime_Build.r 499 9 ret = ret [] 6 := by
  rw [show (499 : Nat) = 498 + 1 from rfl, prime_Build.r, dF (by omega), dF (by omega), build9_0]
theorem build7 {R : Type} (ret : List (Int × Int × List (Int × Int)) → Int → Option R) : prime_Build.f 499 7 ret = ret [(3, 2, [(2, 1)]), (7, 3, [(2, 1), (3, 1)])] 0 := by
  unfold prime_Build.f
  have e : (fun L => prime_Build.r 499 7 (fun y0 y1 => L (prime_Build.rs.enc ((y0, ()), (y1, ()), ())))) = fun (L : AV → Option AV) => L (prime_Build.rs.enc (([(3, 2, [(2, 1)]), (7, 3, [(2, 1), (3, 1)])], ()), (0, ()), ())) := funext fun L => build7_r _
  rw [e, nd_eq]
theorem build9 {R : Type} (ret : List (Int × Int × List (Int × Int)) → Int → Option R) : prime_Build.f 499 9 ret = ret [] 6 := by
  unfold prime_Build.f
  have e : (fun L => prime_Build.r 499 9 (fun y0 y1 => L (prime_Build.rs.enc ((y0, ()), (y1, ()), ())))) = fun (L : AV → Option AV) => L (prime_Build.rs.enc (([], ()), (6, ()), ())) := funext fun L => build9_r _
  rw [e, nd_eq]
theorem awake_spec {R : Type} (ret : Bool → Option R) : affidavitlaw02_awake.f 500 ret = ret true := by
  rw [show (500 : Nat) = 499 + 1 from rfl, affidavitlaw02_awake.f, build7, parts12, build9]
  have hl : ∀ a b : Int × Int × List (Int × Int), [a, b].length < 281474976710656 := fun a b => by simp
  have hf : firstN [(3, 2, [(2, 1)]), (7, 3, [(2, 1), (3, 1)])] = 2 := by
    have h1 := first7 (R := Int) some
    rw [first_spec (hl _ _) (by simp)] at h1
    have h2 := Option.some.inj h1
    omega
  rw [check_spec (hl _ _) (by simp), shows2_spec _ (hl _ _) (by simp), first_spec (hl _ _) (by simp), hf, small65537]
  rfl
end Go.Proofs.Ytanpdkllnmeenaa.M

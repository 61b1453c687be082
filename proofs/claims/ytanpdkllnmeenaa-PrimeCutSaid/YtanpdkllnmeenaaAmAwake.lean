/- The law is awake: fixed answers. -/
import Derived.Test.YtanpdkllnmeenaaAmRight
import Derived.Test.YtanpdkllnmeenaaAmPick
namespace Go.Proofs.Ytanpdkllnmeenaa.Am
theorem perm_two {α : Type} {l : List α} {a b : α} (h : l.Perm [a, b]) : l = [a, b] ∨ l = [b, a] := by
  have hl := h.length_eq
  match l, hl with
  | [c, d], _ =>
    have hc : c ∈ [a, b] := h.subset (List.mem_cons_self ..)
    rcases List.mem_cons.1 hc with rfl | hc
    · left; rw [List.perm_singleton.1 h.cons_inv]
    · rw [List.mem_singleton.1 hc] at h ⊢
      right; rw [List.perm_singleton.1 (h.trans (List.Perm.swap b a [])).cons_inv]
end Go.Proofs.Ytanpdkllnmeenaa.Am
namespace Go.Proofs.Ytanpdkllnmeenaa.M
set_option linter.unusedVariables false
set_option maxRecDepth 100000
open Go Go.RowKit Go.Proofs Go.Proofs.Ytanpdkllnmeenaa.Am

theorem parts12 (j : Nat) {R : Type} (ret : List (Int × Int) → Int → Option R) : prime_Parts.f (j + 499) 12 ret = ret [(2, 2), (3, 1)] 0 := by kernel_rfl
theorem small65537 (j : Nat) {R : Type} (ret : Bool → Option R) : prime_Small.f (j + 499) 65537 ret = ret true := by kernel_rfl
theorem first7 (j : Nat) {R : Type} (ret : Int → Option R) : prime_First.f (j + 499) [(3, 2, [(2, 1)]), (7, 3, [(2, 1), (3, 1)])] ret = ret 2 := by kernel_rfl
theorem build7_0 (j : Nat) {R : Type} (x0 : Int → List (Int × Int × List (Int × Int)) → Option R) (x1 : List (Unit × Int × Int × Int × List (Int × Int)) → Option R) : prime_Build.L0 (j + 498) x0 x1 (j + 498) [] [7] = x1 [((), 7, 7, 3, [(2, 1), (3, 1)]), ((), 3, 3, 2, [(2, 1)])] := by kernel_rfl
theorem build9_0 (j : Nat) {R : Type} (x0 : Int → List (Int × Int × List (Int × Int)) → Option R) (x1 : List (Unit × Int × Int × Int × List (Int × Int)) → Option R) : prime_Build.L0 (j + 498) x0 x1 (j + 498) [] [9] = x0 6 [] := by kernel_rfl
theorem sort37 (j : Nat) {R : Type} (ret : List (Int × Int × List (Int × Int)) → Option R) : slices_SortFunc.f (j + 498) [(3, 2, [(2, 1)]), (7, 3, [(2, 1), (3, 1)])] ret = ret [(3, 2, [(2, 1)]), (7, 3, [(2, 1), (3, 1)])] := by kernel_rfl
theorem sort73 (j : Nat) {R : Type} (ret : List (Int × Int × List (Int × Int)) → Option R) : slices_SortFunc.f (j + 498) [(7, 3, [(2, 1), (3, 1)]), (3, 2, [(2, 1)])] ret = ret [(3, 2, [(2, 1)]), (7, 3, [(2, 1), (3, 1)])] := by kernel_rfl
abbrev m73 : List (Unit × Int × Int × Int × List (Int × Int)) := [((), 7, 7, 3, [(2, 1), (3, 1)]), ((), 3, 3, 2, [(2, 1)])]
theorem build7_r (j : Nat) {R : Type} (ret : List (Int × Int × List (Int × Int)) → Int → Option R) : prime_Build.r (j + 498 + 1) 7 ret = ret [(3, 2, [(2, 1)]), (7, 3, [(2, 1), (3, 1)])] 0 := by
  rw [prime_Build.r, dF (by omega), dF (by omega), build7_0]
  have h2 : ∀ l, l.Perm (m73.map (·.2.2)) → slices_SortFunc.f (j + 498) l (fun l2 => ret l2 0) = ret [(3, 2, [(2, 1)]), (7, 3, [(2, 1), (3, 1)])] 0 := fun l hl => by
    rcases perm_two hl with rfl | rfl
    · exact sort73 j _
    · exact sort37 j _
  rw [l4_all _ m73 (by simp) (fun l l' h1 h3 => by rw [h2 l h1, h2 l' h3]) (by simp)]
  exact h2 _ (List.Perm.refl _)
theorem build9_r (j : Nat) {R : Type} (ret : List (Int × Int × List (Int × Int)) → Int → Option R) : prime_Build.r (j + 498 + 1) 9 ret = ret [] 6 := by
  rw [prime_Build.r, dF (by omega), dF (by omega), build9_0]
theorem build7 (j : Nat) {R : Type} (ret : List (Int × Int × List (Int × Int)) → Int → Option R) : prime_Build.f (j + 499) 7 ret = ret [(3, 2, [(2, 1)]), (7, 3, [(2, 1), (3, 1)])] 0 := by
  unfold prime_Build.f
  have e : (fun L => prime_Build.r (j + 499) 7 (fun y0 y1 => L (prime_Build.rs.enc ((y0, ()), (y1, ()), ())))) = fun (L : AV → Option AV) => L (prime_Build.rs.enc (([(3, 2, [(2, 1)]), (7, 3, [(2, 1), (3, 1)])], ()), (0, ()), ())) := funext fun L => build7_r j _
  rw [e, nd_eq]
theorem build9 (j : Nat) {R : Type} (ret : List (Int × Int × List (Int × Int)) → Int → Option R) : prime_Build.f (j + 499) 9 ret = ret [] 6 := by
  unfold prime_Build.f
  have e : (fun L => prime_Build.r (j + 499) 9 (fun y0 y1 => L (prime_Build.rs.enc ((y0, ()), (y1, ()), ())))) = fun (L : AV → Option AV) => L (prime_Build.rs.enc (([], ()), (6, ()), ())) := funext fun L => build9_r j _
  rw [e, nd_eq]
theorem awake_spec {k : Nat} (hk : 500 ≤ k) {R : Type} (ret : Bool → Option R) : affidavitlaw02_awake.f k ret = ret true := by
  obtain ⟨j, rfl⟩ : ∃ m, k = m + 499 + 1 := ⟨k - 500, by omega⟩
  rw [affidavitlaw02_awake.f, build7, parts12, build9]
  have hl : ∀ a b : Int × Int × List (Int × Int), [a, b].length < 281474976710656 := fun a b => by simp
  have hf : firstN [(3, 2, [(2, 1)]), (7, 3, [(2, 1), (3, 1)])] = 2 := by
    have h1 := first7 0 (R := Int) some
    rw [first_spec (hl _ _) (by simp)] at h1
    have h2 := Option.some.inj h1
    omega
  rw [check_spec (hl _ _) (by simp), shows2_spec _ (hl _ _) (by simp), first_spec (hl _ _) (by simp), hf, small65537]
  rfl
end Go.Proofs.Ytanpdkllnmeenaa.M

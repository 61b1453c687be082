/- What is told otherwise: slices.SortFunc over proofs. -/
import Derived.Test.YtanpdkllnmeenaaAmCx
import Derived.Test.YtanpdkllnmeenaaAmSort
import Derived.Ground.SlsfProg
import Derived.Shelf.SlGeneric
import Derived.WalkKit
import Derived.Lib.Walk
namespace Go.Proofs.Ytanpdkllnmeenaa
open Go Go.Shelf Go.RowKit Go.Lib Go.Proofs
shelf_lay_g SlLaysF0.n6 Slsf 6 at Try 33 as Try.sortProofs
end Go.Proofs.Ytanpdkllnmeenaa
namespace Go.Proofs.Ytanpdkllnmeenaa.M
set_option linter.unusedVariables false
set_option maxRecDepth 100000
open Go Go.RowKit Go.Proofs Go.Proofs.Ytanpdkllnmeenaa.Am Go.Lib
theorem isNaN_call (x : Int) (W : World) : Calls Try.prog 48 #[.int .u64 x] W fun e w' => e = .returned (.bool false) ∧ w' = W := by
  go_enter Try.func48, Try.ntmps48
  go_wp2
  go_ret
  simp
theorem compare_call (x y : Int) (W : World) : Calls Try.prog 35 #[.int .u64 x, .int .u64 y] W fun e w' => e = .returned (.int .i64 (compareInt x y)) ∧ w' = W := by
  have h1 := fun x => isNaN_call x W
  unfold compareInt
  by_cases c1 : x < y
  · rw [if_pos c1]
    go_enter Try.func35, Try.ntmps35
    go_wp2_with (go_at_call 48; refine (h1 _).mono ?_; rintro e w' ⟨rfl, rfl⟩)
    go_ret
    exact ⟨rfl, rfl⟩
  · rw [if_neg c1]
    by_cases c2 : x > y
    · rw [if_pos c2]
      go_enter Try.func35, Try.ntmps35
      go_wp2_with (go_at_call 48; refine (h1 _).mono ?_; rintro e w' ⟨rfl, rfl⟩)
      go_ret
      exact ⟨rfl, rfl⟩
    · rw [if_neg c2]
      go_enter Try.func35, Try.ntmps35
      go_wp2_with (go_at_call 48; refine (h1 _).mono ?_; rintro e w' ⟨rfl, rfl⟩)
      go_ret
      exact ⟨rfl, rfl⟩
theorem build1_call : CmpOk Try.prog 34 tProof (fun x => x.1) := by
  intro W F a b c1 c2 h1 h2
  obtain ⟨x1, x2, rfl, e1, y1, y2, rfl, e2, e3⟩ := h1
  obtain ⟨u1, u2, rfl, g1, v1, v2, rfl, g2, g3⟩ := h2
  have e1 : x1 = [.int .u64 a.1] := e1
  have e2 : y1 = [.int .u64 a.2.1] := e2
  have g1 : u1 = [.int .u64 b.1] := g1
  have g2 : v1 = [.int .u64 b.2.1] := g2
  obtain ⟨A, cap, e3, _⟩ := e3
  obtain ⟨B, cap2, g3, _⟩ := g3
  have e3 : y2 = [.slice A a.2.2.length cap] := e3
  have g3 : v2 = [.slice B b.2.2.length cap2] := g3
  subst e1 e2 e3 g1 g2 g3
  obtain ⟨a1, a2, a3⟩ := a
  obtain ⟨b1, b2, b3⟩ := b
  simp only at *
  have hc := fun W' => compare_call a1 b1 W'
  generalize compareInt a1 b1 = r at hc ⊢
  show Calls Try.prog 34 #[.agg #[.int .u64 a1, .int .u64 a2, .slice A a3.length cap], .agg #[.int .u64 b1, .int .u64 b2, .slice B b3.length cap2]] W _
  go_enter Try.func34, Try.ntmps34
  go_wp2_with (go_at_call 35; refine (hc _).mono ?_; rintro e w' ⟨rfl, rfl⟩)
  go_ret
  exact ⟨rfl, 0, _, by rw [Sort.alloc_eq_grow, Sort.alloc_eq_grow, Sort.grow_grow]; rfl⟩
theorem build1_enters : ∀ args w, (callFunc 34 args).run Try.prog w = .ok (.enter 34 args) w := enters_of Try.func34 (by kernel_rfl) rfl
theorem prOk : PrimsOk Try.prog pr := by
  intro g f p r h1 h2
  have h : ∀ {l : List (Nat × (Pack → Option AV))}, Am.look l g = some f → (g, f) ∈ l := fun h => look_mem h
  have h3 := h (l := [(33, sortF 42 tProof (fun x : tProof.den => x.1) 34)]) h1
  rw [List.mem_singleton] at h3
  injection h3 with e1 e2
  subst e1 e2
  obtain ⟨d, i, z, tk⟩ := cxOk.ty 42 tProof rfl
  obtain ⟨d1, i1, z1, tk1⟩ := cxOk.ty 22 (.sl tProof) rfl
  obtain ⟨_, i2, z2, ek⟩ := tk1.sl tProof rfl rfl
  exact sort_ok Try.sortProofs rfl tk ek rfl rfl build1_enters build1_call h2
end Go.Proofs.Ytanpdkllnmeenaa.M

/- slices.IndexFunc and ContainsFunc over letters and fates; net.Right. -/
import Derived.Test.YtghkngdcmlhmeaaQTake
import Derived.Test.YtghkngdcmlhmeaaPQux14
set_option linter.unusedVariables false
set_option linter.unusedSimpArgs false
set_option linter.unusedSectionVars false
namespace Go.Proofs.Ytghkngdcmlhmeaa.Qn
open Go.RowKit Go.Proofs Go.Proofs.Ytghkngdcmlhmeaa.PQu Go.Proofs.YtghkngdcmlhmeaaW.PrintWords Go.Proofs.YtghkngdcmlhmeaaW.PrintLast Go.Proofs.YtghkngdcmlhmeaaW.PrintMore Go.Proofs.Ytghkngdcmlhmeaa.Qp
section
variable {α : Type}
/-- Where the first such one stands, or -1. -/
def idxI (p : α → Bool) : List α → Int
  | [] => -1
  | x :: l => if p x = true then 0 else (if idxI p l < 0 then -1 else idxI p l + 1)
theorem idxI_lo (p : α → Bool) : ∀ l : List α, -1 ≤ idxI p l
  | [] => by simp [idxI]
  | x :: l => by
    unfold idxI
    have := idxI_lo p l
    split
    · omega
    · split <;> omega
theorem idxI_none (p : α → Bool) : ∀ l : List α, (∀ j, j < l.length → ∀ x, l[j]? = some x → p x = false) → idxI p l = -1
  | [], _ => rfl
  | x :: l, h => by
    unfold idxI
    rw [if_neg (by rw [h 0 (by simp) x rfl]; simp), idxI_none p l (fun j hj y hy => h (j + 1) (by simp; omega) y (by simpa using hy))]
    rfl
theorem idxI_at (p : α → Bool) : ∀ (l : List α) (i : Nat) (x : α), l[i]? = some x → p x = true → (∀ j, j < i → ∀ y, l[j]? = some y → p y = false) → idxI p l = (i : Int)
  | [], i, x, h, _, _ => by simp at h
  | y :: l, 0, x, h, hp, _ => by
    simp at h
    subst h
    unfold idxI
    rw [if_pos hp]
    rfl
  | y :: l, i + 1, x, h, hp, hj => by
    unfold idxI
    have ih := idxI_at p l i x (by simpa using h) hp (fun j hji z hz => hj (j + 1) (by omega) z (by simpa using hz))
    rw [if_neg (by rw [hj 0 (by omega) y rfl]; simp), ih, if_neg (by omega)]
    omega
theorem idxI_any (p : α → Bool) : ∀ l : List α, 0 ≤ idxI p l ↔ l.any p = true
  | [] => by simp [idxI]
  | x :: l => by
    have ih := idxI_any p l
    unfold idxI
    rw [List.any_cons]
    by_cases h : p x = true
    · rw [if_pos h, h]; simp
    · have h' : p x = false := by simpa using h
      rw [if_neg h, h', Bool.false_or]
      by_cases h2 : idxI p l < 0
      · rw [if_pos h2]
        constructor
        · intro h3; omega
        · intro h3; have := ih.mpr h3; omega
      · rw [if_neg h2]
        constructor
        · intro _; exact ih.mp (by omega)
        · intro h3; have := ih.mpr h3; omega
end
/-- A call by name, the operation's guard (if it has one) on. -/
theorem goesW_c {P : Program} {ops : Array Oper} {rest : List Oper} {a : Act} {Q : Exit → Act → World → Prop} {oi : Oper} {W : World} (N : Option Tmp) (hd : oi.dst = N) (hw : Region.wanted oi (yielded ops a.tmps) = true) {f : FuncId} {fn : Func} {os : Array Operand} {ts : Array TypeId} (hf : P.funcs[f]? = some fn) (hname : (fn.name == "runtime.NumGoroutine") = false) (hb : fn.body.isSome = true) (args : Array Value)
    (hop : oi.op = .call { callee := .value (.func f), args := os, argTypes := ts }) (hargs : os.map a.eval = args)
    (h : Calls P f args W fun e w' => ∃ v, e = .returned v ∧ wpList P ops Q rest (a.put N v) w') : wpList P ops Q (oi :: rest) a W :=
  goesW_ N hd hw hf hname hb args hop rfl (by rw [Array.append_empty]; exact hargs) h
def IdxPost (w : World) (t : Int) (e : Ending) (w' : World) : Prop := e = .returned (.int .i64 t) ∧ Below w.heap.size w w'
set_option maxHeartbeats 4000000
set_option maxRecDepth 100000
theorem let_idx.calls (p : S25 → Bool) (f : FuncId) (fn : Func) (cs : Array Value) (hf : Try.prog.funcs[f]? = some fn) (hname : (fn.name == "runtime.NumGoroutine") = false) (hbody : fn.body.isSome = true) (A : Option Addr) (c : Nat) (l : List S25) (w : World) (hr : Kd.C k25 w A l.length l) (hl : l.length < 1099511627776)
    (hc : ∀ W', Below w.heap.size w W' → ∀ (x : S25) (A3 : Option Addr) (c3 : Nat), x.f3.length ≤ c3 → Kd.C (Kd.int .u8) W' A3 x.f3.length x.f3 → Calls Try.prog f (#[.agg #[.int .i64 x.f0, .int .i64 x.f1, .int .i64 x.f2, .slice A3 x.f3.length c3]] ++ cs) W' fun e w' => e = .returned (.bool (p x)) ∧ Below W'.heap.size W' w') :
    Calls Try.prog 54 #[.slice A l.length c, .func (.func f) #[] cs] w (IdxPost w (idxI p l)) := by
  have hu := Try.underlying25
  have HC := Aside0.mk hc
  have HF := Aside0.mk (And.intro hf (And.intro hname hbody))
  have HR := Aside0.mk hr
  have HI := Aside0.mk (show ∀ j, j < 0 → ∀ x, l[j]? = some x → p x = false from fun j hj => by omega)
  obtain ⟨t, ht⟩ : ∃ t, t = idxI p l := ⟨_, rfl⟩
  rw [← ht]
  have HT := Aside0.mk ht
  clear hf hname hbody hc hr ht
  go_enter Try.func54, Try.ntmps54
  go_wp2
  go_loopg [8] l.length (fun kq v8 w' => ∃ (i : Nat), v8 = .int .i64 (i : Int) ∧ Aside0 (i + kq = l.length ∧ Below w.heap.size w w' ∧ ∀ j, j < i → ∀ x, l[j]? = some x → p x = false))
  case atStart => exact ⟨0, by first | rfl | (simp; done), ⟨by omega, Below.refl _ _, HI.out⟩⟩
  case round =>
    clear HI
    obtain ⟨i, rfl, HA⟩ := hrel
    cases gk with
    | zero =>
      have hi := HA.out.1
      have hil : i = l.length := by omega
      have HX := Aside0.mk (show IdxPost w t (.returned (.int .i64 (-1))) wr from ⟨by rw [HT.out, idxI_none p l (by rw [← hil]; exact HA.out.2.2)], HA.out.2.1⟩)
      subst hil
      clear HA hi
      go_wp2
      go_ret
      exact HX.out
    | succ k1 =>
      have hi := HA.out.1
      have hlt : i < l.length := by omega
      have b1 : decide ((i : Int) < (l.length : Int)) = true := decide_eq_true (by omega)
      have b2 : decide (i < l.length) = true := decide_eq_true hlt
      obtain ⟨ad, A3, c3, e, hx0, hx1, hx2, hx3, hl3, hi3⟩ := at_T25 (Kd.C_below HR.out HA.out.2.1) (i : Int) (by omega) (by omega)
      simp only [Int.toNat_natCast] at hx0 hx1 hx2 hx3
      subst e
      have hxe : rd_T25 l (i : Int) = l.getD i z25 := by unfold rd_T25; rw [Int.toNat_natCast]
      rw [hxe] at hx0 hx1 hx2 hx3 hl3 hi3
      obtain ⟨x, hx⟩ : ∃ x, x = l.getD i z25 := ⟨_, rfl⟩
      rw [← hx] at hx0 hx1 hx2 hx3 hl3 hi3
      have HX := Aside0.mk hx
      have H3 := Aside0.mk (And.intro hl3 hi3)
      clear hl3 hi3
      clear hx hxe
      go_wp2_with ((with_reducible refine gate_dst (N := 16) rfl ?_); refine Aside0.out (p := _) ?_)
      refine Aside0.mk ?_
      refine goesW_ (some 16) rfl (by rfl) HF.out.1 HF.out.2.1 HF.out.2.2 (#[.agg #[.int .i64 x.f0, .int .i64 x.f1, .int .i64 x.f2, .slice A3 x.f3.length c3]] ++ cs) rfl rfl (by (try simp only [List.map_toArray, List.map_cons, List.map_nil, List.append_toArray, List.cons_append, List.nil_append]); first | done | rfl) ?_
      refine (HC.out wr HA.out.2.1 x _ _ H3.out.1 H3.out.2).mono ?_
      rintro e w2 ⟨rfl, hb2⟩
      refine ⟨_, rfl, ?_⟩
      have HB2 := Aside0.mk (HA.out.2.1.trans (hb2.mono HA.out.2.1.size))
      have hli : l[i]? = some x := by
        have h1 : l[i]? = some l[i] := List.getElem?_eq_getElem hlt
        rw [h1, HX.out, Hp.getD_lt _ _ _ hlt]
      have HLI := Aside0.mk hli
      clear hb2 hli hx0 hx1 hx2 hx3 H3
      by_cases c5 : p x = true
      · have HY := Aside0.mk (show IdxPost w t (.returned (.int .i64 (i : Int))) w2 from ⟨by rw [HT.out, idxI_at p l i x HLI.out c5 HA.out.2.2], HB2.out⟩)
        rw [c5]
        clear c5
        go_wp2
        go_ret
        exact HY.out
      · have c6 : p x = false := by simpa using c5
        have HN := Aside0.mk (show (i + 1) + k1 = l.length ∧ Below w.heap.size w w2 ∧ ∀ j, j < i + 1 → ∀ x, l[j]? = some x → p x = false from ⟨by omega, HB2.out, fun j hj y hy => by
          by_cases hji : j < i
          · exact HA.out.2.2 j hji y hy
          · have : j = i := by omega
            subst this
            rw [HLI.out] at hy
            obtain rfl := Option.some.inj hy
            exact c6⟩)
        rw [c6]
        clear c5 c6
        go_wp2
        go_roundg k1
        case measure => exact Nat.lt_succ_self _
        case rel => exact ⟨i + 1, by first | rfl | (congr 1; omega) | (simp; done), HN⟩
theorem let_has.calls (p : S25 → Bool) (f : FuncId) (fn : Func) (cs : Array Value) (hf : Try.prog.funcs[f]? = some fn) (hname : (fn.name == "runtime.NumGoroutine") = false) (hbody : fn.body.isSome = true) (A : Option Addr) (c : Nat) (l : List S25) (w : World) (hr : Kd.C k25 w A l.length l) (hl : l.length < 1099511627776)
    (hc : ∀ W', Below w.heap.size w W' → ∀ (x : S25) (A3 : Option Addr) (c3 : Nat), x.f3.length ≤ c3 → Kd.C (Kd.int .u8) W' A3 x.f3.length x.f3 → Calls Try.prog f (#[.agg #[.int .i64 x.f0, .int .i64 x.f1, .int .i64 x.f2, .slice A3 x.f3.length c3]] ++ cs) W' fun e w' => e = .returned (.bool (p x)) ∧ Below W'.heap.size W' w') :
    Calls Try.prog 45 #[.slice A l.length c, .func (.func f) #[] cs] w fun e w' => e = .returned (.bool (l.any p)) ∧ Below w.heap.size w w' := by
  have HC := Aside0.mk (let_idx.calls p f fn cs hf hname hbody A c l w hr hl hc)
  clear hf hname hbody hc hr
  go_enter Try.func45, Try.ntmps45
  go_wp2_with ((with_reducible refine gate_dst (N := 7) rfl ?_); refine Aside0.out (p := _) ?_)
  refine Aside0.mk ?_
  refine goesL_ (some 7) rfl rfl Try.func54 (by kernel_rfl) rfl #[.slice A l.length c, .func (.func f) #[] cs] rfl (by (try simp only [List.map_toArray, List.map_cons, List.map_nil, List.append_toArray, List.cons_append, List.nil_append]); first | done | rfl) ?_
  refine HC.out.mono ?_
  rintro e w2 ⟨rfl, hb2⟩
  refine ⟨_, rfl, ?_⟩
  have HB := Aside0.mk hb2
  clear hb2 HC
  cases h : l.any p with
  | true =>
    have h2 := (idxI_any p l).mpr h
    go_wp2
    go_ret
    exact ⟨by first | rfl | (simp [h2]; done) | (simp [*]; done), HB.out⟩
  | false =>
    have h2 : ¬ 0 ≤ idxI p l := fun h3 => by have := (idxI_any p l).mp h3; rw [h] at this; cases this
    go_wp2
    go_ret
    exact ⟨by first | rfl | (simp [h2]; done) | (simp [*]; done), HB.out⟩
theorem fat_idx.calls (p : S51 → Bool) (f : FuncId) (fn : Func) (cs : Array Value) (hf : Try.prog.funcs[f]? = some fn) (hname : (fn.name == "runtime.NumGoroutine") = false) (hbody : fn.body.isSome = true) (A : Option Addr) (c : Nat) (l : List S51) (w : World) (hr : Kd.C k51 w A l.length l) (hl : l.length < 1099511627776)
    (hc : ∀ W', Below w.heap.size w W' → ∀ (x : S51), Calls Try.prog f (#[.agg #[.bool x.f0, .bool x.f1, .int .i64 x.f2, .int .i64 x.f3]] ++ cs) W' fun e w' => e = .returned (.bool (p x)) ∧ Below W'.heap.size W' w') :
    Calls Try.prog 55 #[.slice A l.length c, .func (.func f) #[] cs] w (IdxPost w (idxI p l)) := by
  have hu := Try.underlying51
  have HC := Aside0.mk hc
  have HF := Aside0.mk (And.intro hf (And.intro hname hbody))
  have HR := Aside0.mk hr
  have HI := Aside0.mk (show ∀ j, j < 0 → ∀ x, l[j]? = some x → p x = false from fun j hj => by omega)
  obtain ⟨t, ht⟩ : ∃ t, t = idxI p l := ⟨_, rfl⟩
  rw [← ht]
  have HT := Aside0.mk ht
  clear hf hname hbody hc hr ht
  go_enter Try.func55, Try.ntmps55
  go_wp2
  go_loopg [8] l.length (fun kq v8 w' => ∃ (i : Nat), v8 = .int .i64 (i : Int) ∧ Aside0 (i + kq = l.length ∧ Below w.heap.size w w' ∧ ∀ j, j < i → ∀ x, l[j]? = some x → p x = false))
  case atStart => exact ⟨0, by first | rfl | (simp; done), ⟨by omega, Below.refl _ _, HI.out⟩⟩
  case round =>
    clear HI
    obtain ⟨i, rfl, HA⟩ := hrel
    cases gk with
    | zero =>
      have hi := HA.out.1
      have hil : i = l.length := by omega
      have HX := Aside0.mk (show IdxPost w t (.returned (.int .i64 (-1))) wr from ⟨by rw [HT.out, idxI_none p l (by rw [← hil]; exact HA.out.2.2)], HA.out.2.1⟩)
      subst hil
      clear HA hi
      go_wp2
      go_ret
      exact HX.out
    | succ k1 =>
      have hi := HA.out.1
      have hlt : i < l.length := by omega
      have b1 : decide ((i : Int) < (l.length : Int)) = true := decide_eq_true (by omega)
      have b2 : decide (i < l.length) = true := decide_eq_true hlt
      obtain ⟨ad, e, hx0, hx1, hx2, hx3⟩ := at_T51 (Kd.C_below HR.out HA.out.2.1) (i : Int) (by omega) (by omega)
      simp only [Int.toNat_natCast] at hx0 hx1 hx2 hx3
      subst e
      have hxe : rd_T51 l (i : Int) = l.getD i z51 := by unfold rd_T51; rw [Int.toNat_natCast]
      rw [hxe] at hx0 hx1 hx2 hx3
      obtain ⟨x, hx⟩ : ∃ x, x = l.getD i z51 := ⟨_, rfl⟩
      rw [← hx] at hx0 hx1 hx2 hx3
      have HX := Aside0.mk hx
      clear hx hxe
      go_wp2_with ((with_reducible refine gate_dst (N := 16) rfl ?_); refine Aside0.out (p := _) ?_)
      refine Aside0.mk ?_
      refine goesW_ (some 16) rfl (by rfl) HF.out.1 HF.out.2.1 HF.out.2.2 (#[.agg #[.bool x.f0, .bool x.f1, .int .i64 x.f2, .int .i64 x.f3]] ++ cs) rfl rfl (by (try simp only [List.map_toArray, List.map_cons, List.map_nil, List.append_toArray, List.cons_append, List.nil_append]); first | done | rfl) ?_
      refine (HC.out wr HA.out.2.1 x).mono ?_
      rintro e w2 ⟨rfl, hb2⟩
      refine ⟨_, rfl, ?_⟩
      have HB2 := Aside0.mk (HA.out.2.1.trans (hb2.mono HA.out.2.1.size))
      have hli : l[i]? = some x := by
        have h1 : l[i]? = some l[i] := List.getElem?_eq_getElem hlt
        rw [h1, HX.out, Hp.getD_lt _ _ _ hlt]
      have HLI := Aside0.mk hli
      clear hb2 hli hx0 hx1 hx2 hx3
      by_cases c5 : p x = true
      · have HY := Aside0.mk (show IdxPost w t (.returned (.int .i64 (i : Int))) w2 from ⟨by rw [HT.out, idxI_at p l i x HLI.out c5 HA.out.2.2], HB2.out⟩)
        rw [c5]
        clear c5
        go_wp2
        go_ret
        exact HY.out
      · have c6 : p x = false := by simpa using c5
        have HN := Aside0.mk (show (i + 1) + k1 = l.length ∧ Below w.heap.size w w2 ∧ ∀ j, j < i + 1 → ∀ x, l[j]? = some x → p x = false from ⟨by omega, HB2.out, fun j hj y hy => by
          by_cases hji : j < i
          · exact HA.out.2.2 j hji y hy
          · have : j = i := by omega
            subst this
            rw [HLI.out] at hy
            obtain rfl := Option.some.inj hy
            exact c6⟩)
        rw [c6]
        clear c5 c6
        go_wp2
        go_roundg k1
        case measure => exact Nat.lt_succ_self _
        case rel => exact ⟨i + 1, by first | rfl | (congr 1; omega) | (simp; done), HN⟩
theorem fat_has.calls (p : S51 → Bool) (f : FuncId) (fn : Func) (cs : Array Value) (hf : Try.prog.funcs[f]? = some fn) (hname : (fn.name == "runtime.NumGoroutine") = false) (hbody : fn.body.isSome = true) (A : Option Addr) (c : Nat) (l : List S51) (w : World) (hr : Kd.C k51 w A l.length l) (hl : l.length < 1099511627776)
    (hc : ∀ W', Below w.heap.size w W' → ∀ (x : S51), Calls Try.prog f (#[.agg #[.bool x.f0, .bool x.f1, .int .i64 x.f2, .int .i64 x.f3]] ++ cs) W' fun e w' => e = .returned (.bool (p x)) ∧ Below W'.heap.size W' w') :
    Calls Try.prog 46 #[.slice A l.length c, .func (.func f) #[] cs] w fun e w' => e = .returned (.bool (l.any p)) ∧ Below w.heap.size w w' := by
  have HC := Aside0.mk (fat_idx.calls p f fn cs hf hname hbody A c l w hr hl hc)
  clear hf hname hbody hc hr
  go_enter Try.func46, Try.ntmps46
  go_wp2_with ((with_reducible refine gate_dst (N := 7) rfl ?_); refine Aside0.out (p := _) ?_)
  refine Aside0.mk ?_
  refine goesL_ (some 7) rfl rfl Try.func55 (by kernel_rfl) rfl #[.slice A l.length c, .func (.func f) #[] cs] rfl (by (try simp only [List.map_toArray, List.map_cons, List.map_nil, List.append_toArray, List.cons_append, List.nil_append]); first | done | rfl) ?_
  refine HC.out.mono ?_
  rintro e w2 ⟨rfl, hb2⟩
  refine ⟨_, rfl, ?_⟩
  have HB := Aside0.mk hb2
  clear hb2 HC
  cases h : l.any p with
  | true =>
    have h2 := (idxI_any p l).mpr h
    go_wp2
    go_ret
    exact ⟨by first | rfl | (simp [h2]; done) | (simp [*]; done), HB.out⟩
  | false =>
    have h2 : ¬ 0 ≤ idxI p l := fun h3 => by have := (idxI_any p l).mp h3; rw [h] at this; cases this
    go_wp2
    go_ret
    exact ⟨by first | rfl | (simp [h2]; done) | (simp [*]; done), HB.out⟩
def badB (now : Int) (x : S25) : Bool := !(decide (x.f2 = 0) || decide (x.f2 = 1)) || decide (x.f0 ≤ now)
def wiB (n m : Int) : Bool := decide (0 ≤ n) && decide (n ≤ m)
def lateB (x : S51) : Bool := !wiB x.f2 1000 || !wiB x.f3 1000
def rightB (a0 a1 : Int) (l2 : List S25) (l3 : List S51) : Bool := wiB a0 1099511627776 && (wiB a1 1099511627776 && (decide (l2.length ≤ 4096) && (!l2.any (badB a0) && !l3.any lateB)))
theorem within_spec (a b : Int) : net_within.f a b = some (wiB a b) := by
  unfold net_within.f wiB
  by_cases h : a ≥ 0
  · rw [if_pos h, decide_eq_true (show 0 ≤ a from h), Bool.true_and]
  · rw [if_neg h, decide_eq_false (show ¬ 0 ≤ a from h), Bool.false_and]
theorem known_spec (a : Int) : net_known.f a = some (decide (a = 0) || decide (a = 1)) := by
  unfold net_known.f
  by_cases h : a = 0
  · rw [if_pos h, decide_eq_true h, Bool.true_or]
  · rw [if_neg h, decide_eq_false h, Bool.false_or]
    first | rfl | (congr 1; rw [Bool.eq_iff_iff]; simp)
theorem within_calls (a b : Int) (w : World) : Calls Try.prog 42 #[.int .i64 a, .int .i64 b] w fun e w' => e = .returned (.bool (wiB a b)) ∧ Below w.heap.size w w' := (net_within.calls a b _ w (within_spec a b)).mono fun _ _ h => ⟨h.1, h.2.below⟩
theorem known_calls (a : Int) (w : World) : Calls Try.prog 39 #[.int .i64 a] w fun e w' => e = .returned (.bool (decide (a = 0) || decide (a = 1))) ∧ Below w.heap.size w w' := (net_known.calls a _ w (known_spec a)).mono fun _ _ h => ⟨h.1, h.2.below⟩
theorem bad_calls (W : World) (nb : Nat) (now a1 : Int) (v2 v3 : Value) (hn : W.heap[nb]? = some (.cells #[.int .i64 now, .int .i64 a1, v2, v3] 44 (0, 0))) (x : S25) (A3 : Option Addr) (c3 : Nat) :
    Calls Try.prog 43 (#[.agg #[.int .i64 x.f0, .int .i64 x.f1, .int .i64 x.f2, .slice A3 x.f3.length c3]] ++ #[.pointer (some ⟨nb, 0, none⟩)]) W fun e w' => e = .returned (.bool (badB now x)) ∧ Below W.heap.size W w' := by
  have hu25 := Try.underlying25
  have hu44 := Try.underlying44
  have HN := Aside0.mk hn
  clear hn
  show Calls Try.prog 43 #[.agg #[.int .i64 x.f0, .int .i64 x.f1, .int .i64 x.f2, .slice A3 x.f3.length c3], .pointer (some ⟨nb, 0, none⟩)] W _
  go_enter Try.func43, Try.ntmps43
  go_wp2_with ((with_reducible refine gate_dst (N := 6) rfl ?_); refine Aside0.out (p := _) ?_)
  refine Aside0.mk ?_
  refine goesL_ (some 6) rfl rfl Try.func39 (by kernel_rfl) rfl #[.int .i64 x.f2] rfl (by (try simp only [List.map_toArray, List.map_cons, List.map_nil, List.append_toArray, List.cons_append, List.nil_append]); first | done | rfl) ?_
  have hb0 := below_alloc (Below.refl W.heap.size W) (.cells #[.int .i64 x.f0, .int .i64 x.f1, .int .i64 x.f2, .slice A3 x.f3.length c3] 25)
  refine (known_calls _ _).mono ?_
  rintro e w2 ⟨rfl, hb2⟩
  refine ⟨_, rfl, ?_⟩
  have hbx := (hb2.block W.heap.size (by simp)).trans (blk_new W _)
  have q0 : w2.cell? ⟨W.heap.size, 0, none⟩ = some (.int .i64 x.f0) := blk_cell hbx 0
  have hB := hb0.trans (hb2.mono hb0.size)
  have q1 : w2.cell? ⟨nb, 0, none⟩ = some (.int .i64 now) := blk_cell ((hB.block _ (blk_lt HN.out)).trans HN.out) 0
  have HB := Aside0.mk hB
  clear hb0 hb2 hbx hB
  obtain ⟨b, hbe⟩ : ∃ b, b = (decide (x.f2 = 0) || decide (x.f2 = 1)) := ⟨_, rfl⟩
  rw [← hbe]
  have HBE := Aside0.mk hbe
  clear hbe
  cases b with
  | true =>
    have HX := Aside0.mk (show badB now x = decide (x.f0 ≤ now) by unfold badB; rw [← HBE.out]; simp)
    go_wp2
    go_ret
    exact ⟨by rw [HX.out]; rfl, HB.out⟩
  | false =>
    have HX := Aside0.mk (show badB now x = true by unfold badB; rw [← HBE.out]; simp)
    go_wp2
    go_ret
    exact ⟨by rw [HX.out]; rfl, HB.out⟩
theorem late_calls (W : World) (x : S51) : Calls Try.prog 44 (#[.agg #[.bool x.f0, .bool x.f1, .int .i64 x.f2, .int .i64 x.f3]] ++ #[]) W fun e w' => e = .returned (.bool (lateB x)) ∧ Below W.heap.size W w' := by
  have hu51 := Try.underlying51
  rw [Array.append_empty]
  go_enter Try.func44, Try.ntmps44
  go_wp2_with ((with_reducible refine gate_dst (N := 5) rfl ?_); refine Aside0.out (p := _) ?_)
  refine Aside0.mk ?_
  refine goesL_ (some 5) rfl rfl Try.func42 (by kernel_rfl) rfl #[.int .i64 x.f2, .int .i64 1000] rfl (by (try simp only [List.map_toArray, List.map_cons, List.map_nil, List.append_toArray, List.cons_append, List.nil_append]); first | done | rfl) ?_
  have hb0 := below_alloc (Below.refl W.heap.size W) (.cells #[.bool x.f0, .bool x.f1, .int .i64 x.f2, .int .i64 x.f3] 51)
  refine (within_calls _ _ _).mono ?_
  rintro e w2 ⟨rfl, hb2⟩
  refine ⟨_, rfl, ?_⟩
  have hbx := (hb2.block W.heap.size (by simp)).trans (blk_new W _)
  have q0 : w2.cell? ⟨W.heap.size, 3, none⟩ = some (.int .i64 x.f3) := blk_cell hbx 3
  have HB := Aside0.mk (hb0.trans (hb2.mono hb0.size))
  clear hb0 hb2 hbx
  obtain ⟨b, hbe⟩ : ∃ b, b = wiB x.f2 1000 := ⟨_, rfl⟩
  rw [← hbe]
  have HBE := Aside0.mk hbe
  clear hbe
  cases b with
  | false =>
    have HX := Aside0.mk (show lateB x = true by unfold lateB; rw [← HBE.out]; simp)
    go_wp2
    go_ret
    exact ⟨by rw [HX.out]; rfl, HB.out⟩
  | true =>
    have HX := Aside0.mk (show lateB x = !wiB x.f3 1000 by unfold lateB; rw [← HBE.out]; simp)
    go_wp2_with ((with_reducible refine gate_dst (N := 10) rfl ?_); refine Aside0.out (p := _) ?_)
    refine Aside0.mk ?_
    refine goesW_c (some 10) rfl (by rfl) Try.func42 (by kernel_rfl) rfl #[.int .i64 x.f3, .int .i64 1000] rfl (by (try simp only [List.map_toArray, List.map_cons, List.map_nil, List.append_toArray, List.cons_append, List.nil_append]); first | done | rfl) ?_
    refine (within_calls _ _ _).mono ?_
    rintro e w3 ⟨rfl, hb3⟩
    refine ⟨_, rfl, ?_⟩
    have HB3 := Aside0.mk (HB.out.trans (hb3.mono HB.out.size))
    clear hb3 HB
    go_wp2
    go_ret
    exact ⟨by rw [HX.out]; first | rfl | (simp; done), HB3.out⟩
theorem right.calls (a0 a1 : Int) (A2 : Option Addr) (c2 : Nat) (l2 : List S25) (A3 : Option Addr) (c3 : Nat) (l3 : List S51) (w : World) (hr2 : Kd.C k25 w A2 l2.length l2) (hr3 : Kd.C k51 w A3 l3.length l3) (h2 : l2.length < 1099511627776) (h3 : l3.length < 1099511627776) :
    Calls Try.prog 25 #[.agg #[.int .i64 a0, .int .i64 a1, .slice A2 l2.length c2, .slice A3 l3.length c3]] w fun e w' => e = .returned (.bool (rightB a0 a1 l2 l3)) ∧ Below w.heap.size w w' := by
  have hu44 := Try.underlying44
  have HR := Aside0.mk (And.intro hr2 hr3)
  have HL := Aside0.mk (And.intro h2 h3)
  have hmf : ∀ (fn : Fn) (first cap : Array Value) (w : World), (Instr.makeFunc fn first cap).run Try.prog w = .ok (.func fn first cap) w := fun _ _ _ _ => rfl
  clear hr2 hr3 h2 h3
  go_enter Try.func25, Try.ntmps25
  go_wp2_with ((with_reducible refine gate_dst (N := 7) rfl ?_); refine Aside0.out (p := _) ?_)
  refine Aside0.mk ?_
  refine goesL_ (some 7) rfl rfl Try.func42 (by kernel_rfl) rfl #[.int .i64 a0, .int .i64 1099511627776] rfl (by (try simp only [List.map_toArray, List.map_cons, List.map_nil, List.append_toArray, List.cons_append, List.nil_append]); first | done | rfl) ?_
  have hb0 := below_alloc (Below.refl w.heap.size w) (.cells #[.int .i64 a0, .int .i64 a1, .slice A2 l2.length c2, .slice A3 l3.length c3] 44)
  refine (within_calls _ _ _).mono ?_
  rintro e w2 ⟨rfl, hb2⟩
  refine ⟨_, rfl, ?_⟩
  have hbx : w2.heap[w.heap.size]? = some (.cells #[.int .i64 a0, .int .i64 a1, .slice A2 l2.length c2, .slice A3 l3.length c3] 44 (0, 0)) := (hb2.block w.heap.size (by simp)).trans (blk_new w _)
  have HB := Aside0.mk (And.intro (hb0.trans (hb2.mono hb0.size)) hbx)
  have q1 : w2.cell? ⟨w.heap.size, 1, none⟩ = some (.int .i64 a1) := blk_cell hbx 1
  clear hb0 hb2 hbx
  obtain ⟨b, hbe⟩ : ∃ b, b = wiB a0 1099511627776 := ⟨_, rfl⟩
  rw [← hbe]
  have HBE := Aside0.mk hbe
  clear hbe
  cases b with
  | false =>
    have HX := Aside0.mk (show rightB a0 a1 l2 l3 = false by unfold rightB; rw [← HBE.out]; rfl)
    go_wp2
    go_ret
    exact ⟨by rw [HX.out]; rfl, HB.out.1⟩
  | true =>
    go_wp2_with ((with_reducible refine gate_dst (N := 12) rfl ?_); refine Aside0.out (p := _) ?_)
    refine Aside0.mk ?_
    refine goesW_c (some 12) rfl (by rfl) Try.func42 (by kernel_rfl) rfl #[.int .i64 a1, .int .i64 1099511627776] rfl (by (try simp only [List.map_toArray, List.map_cons, List.map_nil, List.append_toArray, List.cons_append, List.nil_append]); first | done | rfl) ?_
    refine (within_calls _ _ _).mono ?_
    rintro e w3 ⟨rfl, hb3⟩
    refine ⟨_, rfl, ?_⟩
    have hbx3 := (hb3.block _ (blk_lt HB.out.2)).trans HB.out.2
    have HB3 := Aside0.mk (And.intro (HB.out.1.trans (hb3.mono HB.out.1.size)) hbx3)
    have p2 : w3.cell? ⟨w.heap.size, 2, none⟩ = some (.slice A2 l2.length c2) := blk_cell hbx3 2
    clear hb3 hbx3 HB q1
    obtain ⟨b, hbe⟩ : ∃ b, b = wiB a1 1099511627776 := ⟨_, rfl⟩
    rw [← hbe]
    have HBF := Aside0.mk hbe
    clear hbe
    cases b with
    | false =>
      have HX := Aside0.mk (show rightB a0 a1 l2 l3 = false by unfold rightB; rw [← HBE.out, ← HBF.out]; rfl)
      go_wp2
      go_ret
      exact ⟨by rw [HX.out]; rfl, HB3.out.1⟩
    | true =>
      have HX := Aside0.mk (show rightB a0 a1 l2 l3 = (decide (l2.length ≤ 4096) && (!l2.any (badB a0) && !l3.any lateB)) by unfold rightB; rw [← HBE.out, ← HBF.out]; rfl)
      by_cases c1 : 4096 < l2.length
      · have c2 : decide (l2.length ≤ 4096) = false := decide_eq_false (by omega)
        have b1 : decide (4096 < l2.length) = true := decide_eq_true c1
        have HY := Aside0.mk (show rightB a0 a1 l2 l3 = false by rw [HX.out, c2, Bool.false_and])
        clear c2
        go_wp2
        go_ret
        exact ⟨by rw [HY.out]; rfl, HB3.out.1⟩
      · have c2 : decide (l2.length ≤ 4096) = true := decide_eq_true (by omega)
        have b1 : decide (4096 < l2.length) = false := decide_eq_false c1
        have HY := Aside0.mk (show rightB a0 a1 l2 l3 = (!l2.any (badB a0) && !l3.any lateB) by rw [HX.out, c2, Bool.true_and])
        clear c2
        go_wp2_with ((with_reducible refine gate_dst (N := 25) rfl ?_); refine Aside0.out (p := _) ?_)
        refine Aside0.mk ?_
        refine goesL_ (some 25) rfl rfl Try.func45 (by kernel_rfl) rfl #[.slice A2 l2.length c2, .func (.func 43) #[] #[.pointer (some ⟨w.heap.size, 0, none⟩)]] rfl (by (try simp only [List.map_toArray, List.map_cons, List.map_nil, List.append_toArray, List.cons_append, List.nil_append]); first | done | rfl) ?_
        refine (let_has.calls (badB a0) 43 _ #[.pointer (some ⟨w.heap.size, 0, none⟩)] Try.func43 (by kernel_rfl) rfl A2 c2 l2 w3 (Kd.C_below HR.out.1 HB3.out.1) HL.out.1 (fun W' hW x A3 c3 _ _ => bad_calls W' w.heap.size a0 a1 _ _ ((hW.block _ (blk_lt HB3.out.2)).trans HB3.out.2) x A3 c3)).mono ?_
        rintro e w4 ⟨rfl, hb4⟩
        refine ⟨_, rfl, ?_⟩
        have hbx4 := (hb4.block _ (blk_lt HB3.out.2)).trans HB3.out.2
        have HB4 := Aside0.mk (HB3.out.1.trans (hb4.mono HB3.out.1.size))
        have p3 : w4.cell? ⟨w.heap.size, 3, none⟩ = some (.slice A3 l3.length c3) := blk_cell hbx4 3
        clear hb4 hbx4 HB3 p2
        cases hany : l2.any (badB a0) with
        | true =>
          have HZ := Aside0.mk (show rightB a0 a1 l2 l3 = false by rw [HY.out, hany]; rfl)
          clear hany
          go_wp2
          go_ret
          exact ⟨by rw [HZ.out]; rfl, HB4.out⟩
        | false =>
          have HZ := Aside0.mk (show rightB a0 a1 l2 l3 = !l3.any lateB by rw [HY.out, hany]; rfl)
          clear hany
          go_wp2_with ((with_reducible refine gate_dst (N := 31) rfl ?_); refine Aside0.out (p := _) ?_)
          refine Aside0.mk ?_
          refine goesW_c (some 31) rfl (by rfl) Try.func46 (by kernel_rfl) rfl #[.slice A3 l3.length c3, .func (.func 44) #[] #[]] rfl (by (try simp only [List.map_toArray, List.map_cons, List.map_nil, List.append_toArray, List.cons_append, List.nil_append]); first | done | rfl) ?_
          refine (fat_has.calls lateB 44 _ #[] Try.func44 (by kernel_rfl) rfl A3 c3 l3 w4 (Kd.C_below HR.out.2 HB4.out) HL.out.2 (fun W' hW x => late_calls W' x)).mono ?_
          rintro e w5 ⟨rfl, hb5⟩
          refine ⟨_, rfl, ?_⟩
          have HB5 := Aside0.mk (HB4.out.trans (hb5.mono HB4.out.size))
          clear hb5 HB4
          go_wp2
          go_ret
          exact ⟨by rw [HZ.out]; first | rfl | (simp; done), HB5.out⟩
end Go.Proofs.Ytghkngdcmlhmeaa.Qn

/- Functions. -/
import Derived.Test.YtanpdkllnmeenaaFna
set_option linter.unusedVariables false
set_option maxRecDepth 100000
namespace Go.Proofs.Ytanpdkllnmeenaa.M
open Go Go.RowKit Go.Proofs Go.Proofs.Ytanpdkllnmeenaa.Am

/-! ### affidavit/affidavitref02.First: function 11 -/
noncomputable def affidavitref02_First.B0 {R : Type} (k : Nat) (x0_ : Int → Option R) (x1_ : List (Int × Int × List (Int × Int)) → Option R) (rec_ : List (Int × Int × List (Int × Int)) → Int → Option R) (l1 : List (Int × Int × List (Int × Int))) (i : Int) : Option R :=
  bif (decide (i < (l1.length : Int))) then
    (affidavitref02_Proof.f k l1 i (fun b =>
      bif (!b) then
        (x0_ i)
      else
        (rec_ l1 (IntKind.wrap .i64 (i + 1)))))
  else
    (x1_ l1)
noncomputable def affidavitref02_First.L0 {R : Type} (k : Nat) (x0_ : Int → Option R) (x1_ : List (Int × Int × List (Int × Int)) → Option R) : Nat → List (Int × Int × List (Int × Int)) → Int → Option R
  | 0, _, _ => none
  | m + 1, l1, i => affidavitref02_First.B0 k x0_ x1_ (affidavitref02_First.L0 k x0_ x1_ m) l1 i
noncomputable def affidavitref02_First.f {R : Type} : Nat → (List (Int × Int × List (Int × Int))) → (Int → Option R) → Option R
  | 0, _, _ => none
  | k + 1, l, ret =>
    affidavitref02_First.L0 k (fun t2 =>
      ret t2) (fun l2 =>
      ret (l2.length : Int)) k l 0
noncomputable def affidavitref02_First.T : List (Entry Try.prog Cx pr) := [affidavitref02_Proof.E]
abbrev affidavitref02_First.s0 : Sh := ⟨[.one (.vsl tProof), u, u, .one (.int .i64), u, u, u, u, u, u, u, u, u, u, u, u, u], [], []⟩
abbrev affidavitref02_First.e0_0 : Sh := ⟨[u, u, .one (.int .i64), u, u, u, u, u, u, u, u, u, u, u, u, u, u], [], []⟩
abbrev affidavitref02_First.e0_1 : Sh := ⟨[.one (.vsl tProof), u, u, u, u, u, u, u, u, u, u, u, u, u, u, u, u], [], []⟩
noncomputable def affidavitref02_First.P0 {R : Type} (k : Nat) (K : Ex → St → Option R) (rec_ : affidavitref02_First.s0.den → Option R) (a : affidavitref02_First.s0.den) : Option R := affidavitref02_First.B0 k (fun y0 => K .ret (affidavitref02_First.e0_0.enc (((), (), y0, (), (), (), (), (), (), (), (), (), (), (), (), (), (), ()), ()))) (fun y0 => K (.exit 0) (affidavitref02_First.e0_1.enc ((y0, (), (), (), (), (), (), (), (), (), (), (), (), (), (), (), (), ()), ()))) (fun v0 v1 => rec_ ((v0, (), (), v1, (), (), (), (), (), (), (), (), (), (), (), (), (), ()), ())) a.1.1 a.1.2.2.2.1
noncomputable def affidavitref02_First.Q0 {R : Type} (k : Nat) (K : Ex → St → Option R) (m : Nat) (a : affidavitref02_First.s0.den) : Option R := affidavitref02_First.L0 k (fun y0 => K .ret (affidavitref02_First.e0_0.enc (((), (), y0, (), (), (), (), (), (), (), (), (), (), (), (), (), (), ()), ()))) (fun y0 => K (.exit 0) (affidavitref02_First.e0_1.enc ((y0, (), (), (), (), (), (), (), (), (), (), (), (), (), (), (), (), ()), ()))) m a.1.1 a.1.2.2.2.1
noncomputable def affidavitref02_First.H0 {R : Type} (k : Nat) (st : St) (K : Ex → St → Option R) : Option R := hookL (fun st K => aCode Cx 11 (callT k affidavitref02_First.T) k (lc Try.f11 0) 0 st K) (Cx.hint 11 0) k affidavitref02_First.s0.dec (affidavitref02_First.Q0 k) st K
theorem affidavitref02_First.h0 {R : Type} (k : Nat) (st : St) (K : Ex → St → Option R) : affidavitref02_First.H0 k st K = aCode Cx 11 (callT k affidavitref02_First.T) k (.loop (lc Try.f11 0)) 0 st K :=
  hookL_eq Sh.dec_ok (Φ := affidavitref02_First.P0 k) (fun K a => rfl) (fun K m a => rfl) (fun K m a => loop_step (hookOf []) (allL (l' := []) (by kernel_rfl) trivial) K m _ (by kernel_rfl)) st K
abbrev affidavitref02_First.as : List AS := [.ty (.sl tProof)]
abbrev affidavitref02_First.hs : List SS := []
abbrev affidavitref02_First.rts : List CV := []
abbrev affidavitref02_First.rs : VS := .one (.int .i64)
noncomputable def affidavitref02_First.g : Nat → {R : Type} → HA affidavitref02_First.as × HS affidavitref02_First.hs → (affidavitref02_First.rs.den → Option R) → Option R := fun k {R} a ret => affidavitref02_First.f k a.1.1 (fun y0 => ret y0)
noncomputable def affidavitref02_First.E : Entry Try.prog Cx pr where
  id := 11
  args := affidavitref02_First.as
  heap := affidavitref02_First.hs
  roots := affidavitref02_First.rts
  res := affidavitref02_First.rs
  f := affidavitref02_First.g
  ok := entry_ok (args := affidavitref02_First.as) (heap := affidavitref02_First.hs) (roots := affidavitref02_First.rts) (res := affidavitref02_First.rs) (f := affidavitref02_First.g) rfl Try.func11 affidavitref02_First.T rfl (fun a K => rfl) (fun k {R} a K => fun_step (c := (Try.f11.body).getD .skip) (by kernel_rfl) (hookOf [(0, affidavitref02_First.H0 k)]) (allL (l' := [(0, lc Try.f11 0)]) (by kernel_rfl) ⟨affidavitref02_First.h0 k, trivial⟩) _ K (by kernel_rfl))

/-! ### affidavit/affidavitref02.Shows: function 15 -/
noncomputable def affidavitref02_Shows.f {R : Type} : Nat → (List (Int × Int × List (Int × Int))) → Int → (Bool → Option R) → Option R
  | 0, _, _, _ => none
  | k + 1, l, p, ret =>
    affidavitref02_First.f k l (fun n =>
      bif (n == (l.length : Int)) then
        (affidavitref02_known.f k l p (fun b =>
          ret b))
      else
        (ret false))
noncomputable def affidavitref02_Shows.T : List (Entry Try.prog Cx pr) := [affidavitref02_First.E, affidavitref02_known.E]
abbrev affidavitref02_Shows.as : List AS := [.ty (.sl tProof), .ty (.int .u64)]
abbrev affidavitref02_Shows.hs : List SS := []
abbrev affidavitref02_Shows.rts : List CV := []
abbrev affidavitref02_Shows.rs : VS := .one (.bool)
noncomputable def affidavitref02_Shows.g : Nat → {R : Type} → HA affidavitref02_Shows.as × HS affidavitref02_Shows.hs → (affidavitref02_Shows.rs.den → Option R) → Option R := fun k {R} a ret => affidavitref02_Shows.f k a.1.1 a.1.2.1 (fun y0 => ret y0)
noncomputable def affidavitref02_Shows.E : Entry Try.prog Cx pr where
  id := 15
  args := affidavitref02_Shows.as
  heap := affidavitref02_Shows.hs
  roots := affidavitref02_Shows.rts
  res := affidavitref02_Shows.rs
  f := affidavitref02_Shows.g
  ok := entry_ok (args := affidavitref02_Shows.as) (heap := affidavitref02_Shows.hs) (roots := affidavitref02_Shows.rts) (res := affidavitref02_Shows.rs) (f := affidavitref02_Shows.g) rfl Try.func15 affidavitref02_Shows.T rfl (fun a K => rfl) (fun k {R} a K => fun_step (c := (Try.f15.body).getD .skip) (by kernel_rfl) (hookOf []) (allL (l' := []) (by kernel_rfl) trivial) _ K (by kernel_rfl))

/-! ### affidavit/affidavitlaw02.PrimeRight: function 3 -/
noncomputable def affidavitlaw02_PrimeRight.f {R : Type} : Nat → (List (Int × Int × List (Int × Int))) → Int → (Bool → Option R) → Option R
  | 0, _, _, _ => none
  | k + 1, l, p, ret =>
    affidavitlaw02_awake.f k (fun b =>
      bif (!b) then
        (ret false)
      else
        (affidavitref02_Short.f k l (fun b1 =>
          bif (!b1) then
            (ret true)
          else
            (affidavitref02_First.f k l (fun n =>
              prime_First.f k l (fun n1 =>
                bif (n1 == n) then
                  (prime_Check.f k l (fun b2 =>
                    bif (b2 == (n == (l.length : Int))) then
                      (prime_Shows.f k l p (fun b3 =>
                        affidavitref02_Shows.f k l p (fun b4 =>
                          ret (b3 == b4))))
                    else
                      (ret false)))
                else
                  (ret false)))))))
noncomputable def affidavitlaw02_PrimeRight.T : List (Entry Try.prog Cx pr) := [affidavitlaw02_awake.E, affidavitref02_Short.E, affidavitref02_First.E, prime_First.E, prime_Check.E, prime_Shows.E, affidavitref02_Shows.E]
abbrev affidavitlaw02_PrimeRight.as : List AS := [.ty (.sl tProof), .ty (.int .u64)]
abbrev affidavitlaw02_PrimeRight.hs : List SS := []
abbrev affidavitlaw02_PrimeRight.rts : List CV := []
abbrev affidavitlaw02_PrimeRight.rs : VS := .one (.bool)
noncomputable def affidavitlaw02_PrimeRight.g : Nat → {R : Type} → HA affidavitlaw02_PrimeRight.as × HS affidavitlaw02_PrimeRight.hs → (affidavitlaw02_PrimeRight.rs.den → Option R) → Option R := fun k {R} a ret => affidavitlaw02_PrimeRight.f k a.1.1 a.1.2.1 (fun y0 => ret y0)
noncomputable def affidavitlaw02_PrimeRight.E : Entry Try.prog Cx pr where
  id := 3
  args := affidavitlaw02_PrimeRight.as
  heap := affidavitlaw02_PrimeRight.hs
  roots := affidavitlaw02_PrimeRight.rts
  res := affidavitlaw02_PrimeRight.rs
  f := affidavitlaw02_PrimeRight.g
  ok := entry_ok (args := affidavitlaw02_PrimeRight.as) (heap := affidavitlaw02_PrimeRight.hs) (roots := affidavitlaw02_PrimeRight.rts) (res := affidavitlaw02_PrimeRight.rs) (f := affidavitlaw02_PrimeRight.g) rfl Try.func3 affidavitlaw02_PrimeRight.T rfl (fun a K => rfl) (fun k {R} a K => fun_step (c := (Try.f3.body).getD .skip) (by kernel_rfl) (hookOf []) (allL (l' := []) (by kernel_rfl) trivial) _ K (by kernel_rfl))

/-! ### affidavit/affidavitref02.Parts: function 17 -/
noncomputable def affidavitref02_Parts.B2 {R : Type} (k : Nat) (x0_ : Int → Int → Int → List (Int × Int) → Option R) (rec_ : Int → Int → Int → List (Int × Int) → Option R) (n2 : Int) (q1 : Int) (k_ : Int) (out1 : List (Int × Int)) : Option R :=
  bif (q1 != 0) then (bif ((Int.tmod n2 q1) == 0) then
    (bif (q1 != 0) then (rec_ (IntKind.wrap .u64 (Int.tdiv n2 q1)) q1 (IntKind.wrap .i64 (k_ + 1)) out1) else none)
  else
    (x0_ n2 q1 k_ out1)) else none
noncomputable def affidavitref02_Parts.L2 {R : Type} (k : Nat) (x0_ : Int → Int → Int → List (Int × Int) → Option R) : Nat → Int → Int → Int → List (Int × Int) → Option R
  | 0, _, _, _, _ => none
  | m + 1, n2, q1, k_, out1 => affidavitref02_Parts.B2 k x0_ (affidavitref02_Parts.L2 k x0_ m) n2 q1 k_ out1
noncomputable def affidavitref02_Parts.B0 {R : Type} (k : Nat) (x0_ : Int → List (Int × Int) → Option R) (rec_ : Int → Int → List (Int × Int) → Option R) (n1 : Int) (q : Int) (out : List (Int × Int)) : Option R :=
  bif (decide (q ≤ 65536)) then
    (bif (decide (n1 > 1)) then
      (bif (decide (n1 < 4294967296)) then
        (bif (decide ((IntKind.wrap .u64 (q * q)) > n1)) then
          (affidavitref02_Parts.L2 k (fun n3 q2 k_1 out2 =>
            bif (decide (k_1 > 0)) then
              (bif (decide ((out2 ++ ([(q2, k_1)] : List (Int × Int))).length < 1099511627776)) then (rec_ n3 (IntKind.wrap .u64 (q2 + 1)) (out2 ++ ([(q2, k_1)] : List (Int × Int)))) else none)
            else
              (rec_ n3 (IntKind.wrap .u64 (q2 + 1)) out2)) k n1 n1 0 out)
        else
          (affidavitref02_Parts.L2 k (fun n4 q3 k_2 out3 =>
            bif (decide (k_2 > 0)) then
              (bif (decide ((out3 ++ ([(q3, k_2)] : List (Int × Int))).length < 1099511627776)) then (rec_ n4 (IntKind.wrap .u64 (q3 + 1)) (out3 ++ ([(q3, k_2)] : List (Int × Int)))) else none)
            else
              (rec_ n4 (IntKind.wrap .u64 (q3 + 1)) out3)) k n1 q 0 out))
      else
        (affidavitref02_Parts.L2 k (fun n5 q4 k_3 out4 =>
          bif (decide (k_3 > 0)) then
            (bif (decide ((out4 ++ ([(q4, k_3)] : List (Int × Int))).length < 1099511627776)) then (rec_ n5 (IntKind.wrap .u64 (q4 + 1)) (out4 ++ ([(q4, k_3)] : List (Int × Int)))) else none)
          else
            (rec_ n5 (IntKind.wrap .u64 (q4 + 1)) out4)) k n1 q 0 out))
    else
      (x0_ n1 out))
  else
    (x0_ n1 out)
noncomputable def affidavitref02_Parts.L0 {R : Type} (k : Nat) (x0_ : Int → List (Int × Int) → Option R) : Nat → Int → Int → List (Int × Int) → Option R
  | 0, _, _, _ => none
  | m + 1, n1, q, out => affidavitref02_Parts.B0 k x0_ (affidavitref02_Parts.L0 k x0_ m) n1 q out
noncomputable def affidavitref02_Parts.f {R : Type} : Nat → Int → (List (Int × Int) → Int → Option R) → Option R
  | 0, _, _ => none
  | k + 1, n, ret =>
    bif (n == 0) then
      (ret ([]) 1)
    else
      (bif (decide (n > 9223372036854775807)) then
        (ret ([]) 1)
      else
        (affidavitref02_Parts.L0 k (fun n6 out5 =>
          bif (decide (n6 ≥ 4294967296)) then
            (ret ([]) 3)
          else
            (bif (decide (n6 > 1)) then
              (bif (decide ((out5 ++ ([(n6, 1)] : List (Int × Int))).length < 1099511627776)) then (ret (out5 ++ ([(n6, 1)] : List (Int × Int))) 0) else none)
            else
              (ret out5 0))) k n 2 ([])))
noncomputable def affidavitref02_Parts.T : List (Entry Try.prog Cx pr) := []
abbrev affidavitref02_Parts.s2 : Sh := ⟨[.one (.int .u64), u, u, u, .one (.ref 0), .one (.int .u64), .one (.int .i64), u, u, u, u, u, u, u, u, u, u, u, u, u, u, u, u, u, u, u, u, u, u, u, u, u, u, u, u, u, u, u, u, u, u, u, u, u, u, u, u, u, u, u, u, u, u, u, u, u, u, u], [.row true 37 tPart], []⟩
abbrev affidavitref02_Parts.e2_0 : Sh := ⟨[.one (.int .u64), u, u, u, .one (.ref 0), .one (.int .u64), .one (.int .i64), u, u, u, u, u, u, u, u, u, u, u, u, u, u, u, u, u, u, u, u, u, u, u, u, u, u, u, u, u, u, u, u, u, u, u, u, u, u, u, u, u, u, u, u, u, u, u, u, u, u, u], [.row true 37 tPart], []⟩
noncomputable def affidavitref02_Parts.P2 {R : Type} (k : Nat) (K : Ex → St → Option R) (rec_ : affidavitref02_Parts.s2.den → Option R) (a : affidavitref02_Parts.s2.den) : Option R := affidavitref02_Parts.B2 k (fun y0 y1 y2 y3 => K (.exit 2) (affidavitref02_Parts.e2_0.enc ((y0, (), (), (), (), y1, y2, (), (), (), (), (), (), (), (), (), (), (), (), (), (), (), (), (), (), (), (), (), (), (), (), (), (), (), (), (), (), (), (), (), (), (), (), (), (), (), (), (), (), (), (), (), (), (), (), (), (), (), ()), (y3, ())))) (fun v0 v1 v2 v3 => rec_ ((v0, (), (), (), (), v1, v2, (), (), (), (), (), (), (), (), (), (), (), (), (), (), (), (), (), (), (), (), (), (), (), (), (), (), (), (), (), (), (), (), (), (), (), (), (), (), (), (), (), (), (), (), (), (), (), (), (), (), (), ()), (v3, ()))) a.1.1 a.1.2.2.2.2.2.1 a.1.2.2.2.2.2.2.1 a.2.1
noncomputable def affidavitref02_Parts.Q2 {R : Type} (k : Nat) (K : Ex → St → Option R) (m : Nat) (a : affidavitref02_Parts.s2.den) : Option R := affidavitref02_Parts.L2 k (fun y0 y1 y2 y3 => K (.exit 2) (affidavitref02_Parts.e2_0.enc ((y0, (), (), (), (), y1, y2, (), (), (), (), (), (), (), (), (), (), (), (), (), (), (), (), (), (), (), (), (), (), (), (), (), (), (), (), (), (), (), (), (), (), (), (), (), (), (), (), (), (), (), (), (), (), (), (), (), (), (), ()), (y3, ())))) m a.1.1 a.1.2.2.2.2.2.1 a.1.2.2.2.2.2.2.1 a.2.1
noncomputable def affidavitref02_Parts.H2 {R : Type} (k : Nat) (st : St) (K : Ex → St → Option R) : Option R := hookL (fun st K => aCode Cx 17 (callT k affidavitref02_Parts.T) k (lc Try.f17 2) 2 st K) (Cx.hint 17 2) k affidavitref02_Parts.s2.dec (affidavitref02_Parts.Q2 k) st K
theorem affidavitref02_Parts.h2 {R : Type} (k : Nat) (st : St) (K : Ex → St → Option R) : affidavitref02_Parts.H2 k st K = aCode Cx 17 (callT k affidavitref02_Parts.T) k (.loop (lc Try.f17 2)) 2 st K :=
  hookL_eq Sh.dec_ok (Φ := affidavitref02_Parts.P2 k) (fun K a => rfl) (fun K m a => rfl) (fun K m a => loop_step (hookOf []) (allL (l' := []) (by kernel_rfl) trivial) K m _ (by kernel_rfl)) st K
abbrev affidavitref02_Parts.s0 : Sh := ⟨[.one (.int .u64), u, u, u, .one (.ref 0), .one (.int .u64), u, u, u, u, u, u, u, u, u, u, u, u, u, u, u, u, u, u, u, u, u, u, u, u, u, u, u, u, u, u, u, u, u, u, u, u, u, u, u, u, u, u, u, u, u, u, u, u, u, u, u, u], [.row true 37 tPart], []⟩
abbrev affidavitref02_Parts.e0_0 : Sh := ⟨[.one (.int .u64), u, u, u, .one (.ref 0), u, u, u, u, u, u, u, u, u, u, u, u, u, u, u, u, u, u, u, u, u, u, u, u, u, u, u, u, u, u, u, u, u, u, u, u, u, u, u, u, u, u, u, u, u, u, u, u, u, u, u, u, u], [.row true 37 tPart], []⟩
noncomputable def affidavitref02_Parts.P0 {R : Type} (k : Nat) (K : Ex → St → Option R) (rec_ : affidavitref02_Parts.s0.den → Option R) (a : affidavitref02_Parts.s0.den) : Option R := affidavitref02_Parts.B0 k (fun y0 y1 => K (.exit 0) (affidavitref02_Parts.e0_0.enc ((y0, (), (), (), (), (), (), (), (), (), (), (), (), (), (), (), (), (), (), (), (), (), (), (), (), (), (), (), (), (), (), (), (), (), (), (), (), (), (), (), (), (), (), (), (), (), (), (), (), (), (), (), (), (), (), (), (), (), ()), (y1, ())))) (fun v0 v1 v2 => rec_ ((v0, (), (), (), (), v1, (), (), (), (), (), (), (), (), (), (), (), (), (), (), (), (), (), (), (), (), (), (), (), (), (), (), (), (), (), (), (), (), (), (), (), (), (), (), (), (), (), (), (), (), (), (), (), (), (), (), (), (), ()), (v2, ()))) a.1.1 a.1.2.2.2.2.2.1 a.2.1
noncomputable def affidavitref02_Parts.Q0 {R : Type} (k : Nat) (K : Ex → St → Option R) (m : Nat) (a : affidavitref02_Parts.s0.den) : Option R := affidavitref02_Parts.L0 k (fun y0 y1 => K (.exit 0) (affidavitref02_Parts.e0_0.enc ((y0, (), (), (), (), (), (), (), (), (), (), (), (), (), (), (), (), (), (), (), (), (), (), (), (), (), (), (), (), (), (), (), (), (), (), (), (), (), (), (), (), (), (), (), (), (), (), (), (), (), (), (), (), (), (), (), (), (), ()), (y1, ())))) m a.1.1 a.1.2.2.2.2.2.1 a.2.1
noncomputable def affidavitref02_Parts.H0 {R : Type} (k : Nat) (st : St) (K : Ex → St → Option R) : Option R := hookL (fun st K => aCode Cx 17 (callT k affidavitref02_Parts.T) k (lc Try.f17 0) 0 st K) (Cx.hint 17 0) k affidavitref02_Parts.s0.dec (affidavitref02_Parts.Q0 k) st K
theorem affidavitref02_Parts.h0 {R : Type} (k : Nat) (st : St) (K : Ex → St → Option R) : affidavitref02_Parts.H0 k st K = aCode Cx 17 (callT k affidavitref02_Parts.T) k (.loop (lc Try.f17 0)) 0 st K :=
  hookL_eq Sh.dec_ok (Φ := affidavitref02_Parts.P0 k) (fun K a => rfl) (fun K m a => rfl) (fun K m a => loop_step (hookOf [(2, affidavitref02_Parts.H2 k)]) (allL (l' := [(2, lc Try.f17 2)]) (by kernel_rfl) ⟨affidavitref02_Parts.h2 k, trivial⟩) K m _ (by kernel_rfl)) st K
abbrev affidavitref02_Parts.as : List AS := [.ty (.int .u64)]
abbrev affidavitref02_Parts.hs : List SS := []
abbrev affidavitref02_Parts.rts : List CV := []
abbrev affidavitref02_Parts.rs : VS := .tup [(false, [.own 37 tPart]), (false, [.int .i64])]
noncomputable def affidavitref02_Parts.g : Nat → {R : Type} → HA affidavitref02_Parts.as × HS affidavitref02_Parts.hs → (affidavitref02_Parts.rs.den → Option R) → Option R := fun k {R} a ret => affidavitref02_Parts.f k a.1.1 (fun y0 y1 => ret ((y0, ()), (y1, ()), ()))
noncomputable def affidavitref02_Parts.E : Entry Try.prog Cx pr where
  id := 17
  args := affidavitref02_Parts.as
  heap := affidavitref02_Parts.hs
  roots := affidavitref02_Parts.rts
  res := affidavitref02_Parts.rs
  f := affidavitref02_Parts.g
  ok := entry_ok (args := affidavitref02_Parts.as) (heap := affidavitref02_Parts.hs) (roots := affidavitref02_Parts.rts) (res := affidavitref02_Parts.rs) (f := affidavitref02_Parts.g) rfl Try.func17 affidavitref02_Parts.T rfl (fun a K => rfl) (fun k {R} a K => fun_step (c := (Try.f17.body).getD .skip) (by kernel_rfl) (hookOf [(0, affidavitref02_Parts.H0 k)]) (allL (l' := [(0, lc Try.f17 0)]) (by kernel_rfl) ⟨affidavitref02_Parts.h0 k, trivial⟩) _ K (by kernel_rfl))

/-! ### affidavit/affidavitref02.Same: function 18 -/
noncomputable def affidavitref02_Same.B0 {R : Type} (k : Nat) (x0_ : Bool → Option R) (x1_ : Unit → Option R) (rec_ : List (Int × Int) → List (Int × Int) → Int → Option R) (a1 : List (Int × Int)) (b1 : List (Int × Int)) (i : Int) : Option R :=
  bif (decide (i < (a1.length : Int))) then
    (bif (decide (0 ≤ i) && decide (i < (a1.length : Int))) then (bif (decide (0 ≤ i) && decide (i < (b1.length : Int))) then (bif (!((((a1.getD i.toNat (0, 0)).1) == (b1.getD i.toNat (0, 0)).1) && ((((a1.getD i.toNat (0, 0)).2) == (b1.getD i.toNat (0, 0)).2) && true))) then
      (x0_ false)
    else
      (rec_ a1 b1 (IntKind.wrap .i64 (i + 1)))) else none) else none)
  else
    (x1_ ())
noncomputable def affidavitref02_Same.L0 {R : Type} (k : Nat) (x0_ : Bool → Option R) (x1_ : Unit → Option R) : Nat → List (Int × Int) → List (Int × Int) → Int → Option R
  | 0, _, _, _ => none
  | m + 1, a1, b1, i => affidavitref02_Same.B0 k x0_ x1_ (affidavitref02_Same.L0 k x0_ x1_ m) a1 b1 i
noncomputable def affidavitref02_Same.f {R : Type} : Nat → (List (Int × Int)) → (List (Int × Int)) → (Bool → Option R) → Option R
  | 0, _, _, _ => none
  | k + 1, a, b, ret =>
    bif ((a.length : Int) != (b.length : Int)) then
      (ret false)
    else
      (affidavitref02_Same.L0 k (fun t4 =>
        ret t4) (fun _ =>
        ret true) k a b 0)
noncomputable def affidavitref02_Same.T : List (Entry Try.prog Cx pr) := []
abbrev affidavitref02_Same.s0 : Sh := ⟨[.one (.vsl tPart), .one (.vsl tPart), u, u, u, .one (.int .i64), u, u, u, u, u, u, u, u, u, u, u, u, u, u, u, u, u, u, u, u], [], []⟩
abbrev affidavitref02_Same.e0_0 : Sh := ⟨[u, u, u, u, .one (.bool), u, u, u, u, u, u, u, u, u, u, u, u, u, u, u, u, u, u, u, u, u], [], []⟩
abbrev affidavitref02_Same.e0_1 : Sh := ⟨[u, u, u, u, u, u, u, u, u, u, u, u, u, u, u, u, u, u, u, u, u, u, u, u, u, u], [], []⟩
noncomputable def affidavitref02_Same.P0 {R : Type} (k : Nat) (K : Ex → St → Option R) (rec_ : affidavitref02_Same.s0.den → Option R) (a : affidavitref02_Same.s0.den) : Option R := affidavitref02_Same.B0 k (fun y0 => K .ret (affidavitref02_Same.e0_0.enc (((), (), (), (), y0, (), (), (), (), (), (), (), (), (), (), (), (), (), (), (), (), (), (), (), (), (), ()), ()))) (fun _ => K (.exit 0) (affidavitref02_Same.e0_1.enc (((), (), (), (), (), (), (), (), (), (), (), (), (), (), (), (), (), (), (), (), (), (), (), (), (), (), ()), ()))) (fun v0 v1 v2 => rec_ ((v0, v1, (), (), (), v2, (), (), (), (), (), (), (), (), (), (), (), (), (), (), (), (), (), (), (), (), ()), ())) a.1.1 a.1.2.1 a.1.2.2.2.2.2.1
noncomputable def affidavitref02_Same.Q0 {R : Type} (k : Nat) (K : Ex → St → Option R) (m : Nat) (a : affidavitref02_Same.s0.den) : Option R := affidavitref02_Same.L0 k (fun y0 => K .ret (affidavitref02_Same.e0_0.enc (((), (), (), (), y0, (), (), (), (), (), (), (), (), (), (), (), (), (), (), (), (), (), (), (), (), (), ()), ()))) (fun _ => K (.exit 0) (affidavitref02_Same.e0_1.enc (((), (), (), (), (), (), (), (), (), (), (), (), (), (), (), (), (), (), (), (), (), (), (), (), (), (), ()), ()))) m a.1.1 a.1.2.1 a.1.2.2.2.2.2.1
noncomputable def affidavitref02_Same.H0 {R : Type} (k : Nat) (st : St) (K : Ex → St → Option R) : Option R := hookL (fun st K => aCode Cx 18 (callT k affidavitref02_Same.T) k (lc Try.f18 0) 0 st K) (Cx.hint 18 0) k affidavitref02_Same.s0.dec (affidavitref02_Same.Q0 k) st K
theorem affidavitref02_Same.h0 {R : Type} (k : Nat) (st : St) (K : Ex → St → Option R) : affidavitref02_Same.H0 k st K = aCode Cx 18 (callT k affidavitref02_Same.T) k (.loop (lc Try.f18 0)) 0 st K :=
  hookL_eq Sh.dec_ok (Φ := affidavitref02_Same.P0 k) (fun K a => rfl) (fun K m a => rfl) (fun K m a => loop_step (hookOf []) (allL (l' := []) (by kernel_rfl) trivial) K m _ (by kernel_rfl)) st K
abbrev affidavitref02_Same.as : List AS := [.ty (.sl tPart), .ty (.sl tPart)]
abbrev affidavitref02_Same.hs : List SS := []
abbrev affidavitref02_Same.rts : List CV := []
abbrev affidavitref02_Same.rs : VS := .one (.bool)
noncomputable def affidavitref02_Same.g : Nat → {R : Type} → HA affidavitref02_Same.as × HS affidavitref02_Same.hs → (affidavitref02_Same.rs.den → Option R) → Option R := fun k {R} a ret => affidavitref02_Same.f k a.1.1 a.1.2.1 (fun y0 => ret y0)
noncomputable def affidavitref02_Same.E : Entry Try.prog Cx pr where
  id := 18
  args := affidavitref02_Same.as
  heap := affidavitref02_Same.hs
  roots := affidavitref02_Same.rts
  res := affidavitref02_Same.rs
  f := affidavitref02_Same.g
  ok := entry_ok (args := affidavitref02_Same.as) (heap := affidavitref02_Same.hs) (roots := affidavitref02_Same.rts) (res := affidavitref02_Same.rs) (f := affidavitref02_Same.g) rfl Try.func18 affidavitref02_Same.T rfl (fun a K => rfl) (fun k {R} a K => fun_step (c := (Try.f18.body).getD .skip) (by kernel_rfl) (hookOf [(0, affidavitref02_Same.H0 k)]) (allL (l' := [(0, lc Try.f18 0)]) (by kernel_rfl) ⟨affidavitref02_Same.h0 k, trivial⟩) _ K (by kernel_rfl))

/-! ### affidavit/affidavitref02.Is: function 20 -/
noncomputable def affidavitref02_Is.B0 {R : Type} (k : Nat) (x0_ : Bool → Option R) (x1_ : Unit → Option R) (rec_ : Int → Int → Option R) (n1 : Int) (q : Int) : Option R :=
  bif (decide ((IntKind.wrap .u64 (q * q)) ≤ n1)) then
    (bif (q != 0) then (bif ((Int.tmod n1 q) == 0) then
      (x0_ false)
    else
      (rec_ n1 (IntKind.wrap .u64 (q + 1)))) else none)
  else
    (x1_ ())
noncomputable def affidavitref02_Is.L0 {R : Type} (k : Nat) (x0_ : Bool → Option R) (x1_ : Unit → Option R) : Nat → Int → Int → Option R
  | 0, _, _ => none
  | m + 1, n1, q => affidavitref02_Is.B0 k x0_ x1_ (affidavitref02_Is.L0 k x0_ x1_ m) n1 q
noncomputable def affidavitref02_Is.f {R : Type} : Nat → Int → (Bool → Option R) → Option R
  | 0, _, _ => none
  | k + 1, n, ret =>
    bif (decide (n < 2)) then
      (ret false)
    else
      (affidavitref02_Is.L0 k (fun t2 =>
        ret t2) (fun _ =>
        ret true) k n 2)
noncomputable def affidavitref02_Is.T : List (Entry Try.prog Cx pr) := []
abbrev affidavitref02_Is.s0 : Sh := ⟨[.one (.int .u64), u, u, .one (.int .u64), u, u, u, u, u, u, u, u, u, u, u, u, u], [], []⟩
abbrev affidavitref02_Is.e0_0 : Sh := ⟨[u, u, .one (.bool), u, u, u, u, u, u, u, u, u, u, u, u, u, u], [], []⟩
abbrev affidavitref02_Is.e0_1 : Sh := ⟨[u, u, u, u, u, u, u, u, u, u, u, u, u, u, u, u, u], [], []⟩
noncomputable def affidavitref02_Is.P0 {R : Type} (k : Nat) (K : Ex → St → Option R) (rec_ : affidavitref02_Is.s0.den → Option R) (a : affidavitref02_Is.s0.den) : Option R := affidavitref02_Is.B0 k (fun y0 => K .ret (affidavitref02_Is.e0_0.enc (((), (), y0, (), (), (), (), (), (), (), (), (), (), (), (), (), (), ()), ()))) (fun _ => K (.exit 0) (affidavitref02_Is.e0_1.enc (((), (), (), (), (), (), (), (), (), (), (), (), (), (), (), (), (), ()), ()))) (fun v0 v1 => rec_ ((v0, (), (), v1, (), (), (), (), (), (), (), (), (), (), (), (), (), ()), ())) a.1.1 a.1.2.2.2.1
noncomputable def affidavitref02_Is.Q0 {R : Type} (k : Nat) (K : Ex → St → Option R) (m : Nat) (a : affidavitref02_Is.s0.den) : Option R := affidavitref02_Is.L0 k (fun y0 => K .ret (affidavitref02_Is.e0_0.enc (((), (), y0, (), (), (), (), (), (), (), (), (), (), (), (), (), (), ()), ()))) (fun _ => K (.exit 0) (affidavitref02_Is.e0_1.enc (((), (), (), (), (), (), (), (), (), (), (), (), (), (), (), (), (), ()), ()))) m a.1.1 a.1.2.2.2.1
noncomputable def affidavitref02_Is.H0 {R : Type} (k : Nat) (st : St) (K : Ex → St → Option R) : Option R := hookL (fun st K => aCode Cx 20 (callT k affidavitref02_Is.T) k (lc Try.f20 0) 0 st K) (Cx.hint 20 0) k affidavitref02_Is.s0.dec (affidavitref02_Is.Q0 k) st K
theorem affidavitref02_Is.h0 {R : Type} (k : Nat) (st : St) (K : Ex → St → Option R) : affidavitref02_Is.H0 k st K = aCode Cx 20 (callT k affidavitref02_Is.T) k (.loop (lc Try.f20 0)) 0 st K :=
  hookL_eq Sh.dec_ok (Φ := affidavitref02_Is.P0 k) (fun K a => rfl) (fun K m a => rfl) (fun K m a => loop_step (hookOf []) (allL (l' := []) (by kernel_rfl) trivial) K m _ (by kernel_rfl)) st K
abbrev affidavitref02_Is.as : List AS := [.ty (.int .u64)]
abbrev affidavitref02_Is.hs : List SS := []
abbrev affidavitref02_Is.rts : List CV := []
abbrev affidavitref02_Is.rs : VS := .one (.bool)
noncomputable def affidavitref02_Is.g : Nat → {R : Type} → HA affidavitref02_Is.as × HS affidavitref02_Is.hs → (affidavitref02_Is.rs.den → Option R) → Option R := fun k {R} a ret => affidavitref02_Is.f k a.1.1 (fun y0 => ret y0)
noncomputable def affidavitref02_Is.E : Entry Try.prog Cx pr where
  id := 20
  args := affidavitref02_Is.as
  heap := affidavitref02_Is.hs
  roots := affidavitref02_Is.rts
  res := affidavitref02_Is.rs
  f := affidavitref02_Is.g
  ok := entry_ok (args := affidavitref02_Is.as) (heap := affidavitref02_Is.hs) (roots := affidavitref02_Is.rts) (res := affidavitref02_Is.rs) (f := affidavitref02_Is.g) rfl Try.func20 affidavitref02_Is.T rfl (fun a K => rfl) (fun k {R} a K => fun_step (c := (Try.f20.body).getD .skip) (by kernel_rfl) (hookOf [(0, affidavitref02_Is.H0 k)]) (allL (l' := [(0, lc Try.f20 0)]) (by kernel_rfl) ⟨affidavitref02_Is.h0 k, trivial⟩) _ K (by kernel_rfl))

/-! ### affidavit/affidavitlaw02.PrimeParts: function 4 -/
noncomputable def affidavitlaw02_PrimeParts.B2 {R : Type} (k : Nat) (x0_ : Bool → Option R) (x1_ : Int → Int → List (Int × Int) → Option R) (rec_ : Int → Int → Int → List (Int × Int) → Option R) (n4 : Int) (i1 : Int) (t : Int) (l3 : List (Int × Int)) : Option R :=
  bif (decide (0 ≤ i1) && decide (i1 < (l3.length : Int))) then (bif (decide (t < (l3.getD i1.toNat (0, 0)).2)) then
    (bif (decide (0 ≤ i1) && decide (i1 < (l3.length : Int))) then (bif (((l3.getD i1.toNat (0, 0)).1) != 0) then (bif ((Int.tmod n4 (l3.getD i1.toNat (0, 0)).1) != 0) then
      (x0_ false)
    else
      (bif (decide (0 ≤ i1) && decide (i1 < (l3.length : Int))) then (bif (((l3.getD i1.toNat (0, 0)).1) != 0) then (rec_ (IntKind.wrap .u64 (Int.tdiv n4 (l3.getD i1.toNat (0, 0)).1)) i1 (IntKind.wrap .i64 (t + 1)) l3) else none) else none)) else none) else none)
  else
    (x1_ n4 i1 l3)) else none
noncomputable def affidavitlaw02_PrimeParts.L2 {R : Type} (k : Nat) (x0_ : Bool → Option R) (x1_ : Int → Int → List (Int × Int) → Option R) : Nat → Int → Int → Int → List (Int × Int) → Option R
  | 0, _, _, _, _ => none
  | m + 1, n4, i1, t, l3 => affidavitlaw02_PrimeParts.B2 k x0_ x1_ (affidavitlaw02_PrimeParts.L2 k x0_ x1_ m) n4 i1 t l3
noncomputable def affidavitlaw02_PrimeParts.B0 {R : Type} (k : Nat) (x0_ : Bool → Option R) (x1_ : Int → Option R) (rec_ : Int → Int → List (Int × Int) → Option R) (n3 : Int) (i : Int) (l2 : List (Int × Int)) : Option R :=
  bif (decide (i < (l2.length : Int))) then
    (bif (decide (0 ≤ i) && decide (i < (l2.length : Int))) then (bif (decide (((l2.getD i.toNat (0, 0)).2) < 1)) then
      (x0_ false)
    else
      (bif (decide (i > 0)) then
        (bif (decide (0 ≤ i) && decide (i < (l2.length : Int))) then (bif (decide (0 ≤ (IntKind.wrap .i64 (i - 1))) && decide ((IntKind.wrap .i64 (i - 1)) < (l2.length : Int))) then (bif (decide (((l2.getD i.toNat (0, 0)).1) ≤ (l2.getD ((IntKind.wrap .i64 (i - 1)).toNat) (0, 0)).1)) then
          (x0_ false)
        else
          (bif (decide (0 ≤ i) && decide (i < (l2.length : Int))) then (affidavitref02_Is.f k ((l2.getD i.toNat (0, 0)).1) (fun b4 =>
            bif (!b4) then
              (x0_ false)
            else
              (affidavitlaw02_PrimeParts.L2 k (fun t4 =>
                x0_ t4) (fun n5 i2 l4 =>
                rec_ n5 (IntKind.wrap .i64 (i2 + 1)) l4) k n3 i 0 l2))) else none)) else none) else none)
      else
        (bif (decide (0 ≤ i) && decide (i < (l2.length : Int))) then (affidavitref02_Is.f k ((l2.getD i.toNat (0, 0)).1) (fun b5 =>
          bif (!b5) then
            (x0_ false)
          else
            (affidavitlaw02_PrimeParts.L2 k (fun t41 =>
              x0_ t41) (fun n6 i3 l5 =>
              rec_ n6 (IntKind.wrap .i64 (i3 + 1)) l5) k n3 i 0 l2))) else none))) else none)
  else
    (x1_ n3)
noncomputable def affidavitlaw02_PrimeParts.L0 {R : Type} (k : Nat) (x0_ : Bool → Option R) (x1_ : Int → Option R) : Nat → Int → Int → List (Int × Int) → Option R
  | 0, _, _, _ => none
  | m + 1, n3, i, l2 => affidavitlaw02_PrimeParts.B0 k x0_ x1_ (affidavitlaw02_PrimeParts.L0 k x0_ x1_ m) n3 i l2
noncomputable def affidavitlaw02_PrimeParts.f {R : Type} : Nat → Int → Int → (Bool → Option R) → Option R
  | 0, _, _, _ => none
  | k + 1, n, m_, ret =>
    affidavitlaw02_awake.f k (fun b =>
      bif (!b) then
        (ret false)
      else
        (prime_Parts.f k n (fun l n1 =>
          affidavitref02_Parts.f k n (fun l1 n2 =>
            bif ((16777216 : Int) != 0) then (affidavitref02_Same.f k l l1 (fun b1 =>
              bif (!b1) then
                (ret false)
              else
                (bif (n1 != n2) then
                  (ret false)
                else
                  (prime_Small.f k (Int.tmod m_ 16777216) (fun b2 =>
                    affidavitref02_Is.f k (Int.tmod m_ 16777216) (fun b3 =>
                      bif (!(b2 == b3)) then
                        (ret false)
                      else
                        (bif (n1 != 0) then
                          (ret ((l.length : Int) == 0))
                        else
                          (affidavitlaw02_PrimeParts.L0 k (fun t42 =>
                            ret t42) (fun n7 =>
                            ret (n7 == 1)) k n 0 l)))))))) else none))))
noncomputable def affidavitlaw02_PrimeParts.T : List (Entry Try.prog Cx pr) := [affidavitlaw02_awake.E, prime_Parts.E, affidavitref02_Parts.E, affidavitref02_Same.E, prime_Small.E, affidavitref02_Is.E]
abbrev affidavitlaw02_PrimeParts.s2 : Sh := ⟨[.one (.int .u64), u, u, u, u, .one (.ref 0), u, u, u, .one (.int .i64), .one (.int .i64), u, u, u, u, u, u, u, u, u, u, u, u, u, u, u, u, u, u, u, u, u, u, u, u, u, u, u, u, u, u, u, u, u, u, u, u, u, u, u, u, u, u, u, u, u, u, u, u, u, u, u, u, u, u, u, u, u, u, u, u, u, u, u, u, u, u, u, u, u, u, u, u, u, u, u, u, u, u, u, u, u, u, u, u, u, u, u, u, u, u, u, u, u, u, u, u, u, u, u, u], [.row true 37 tPart], []⟩
abbrev affidavitlaw02_PrimeParts.e2_0 : Sh := ⟨[u, u, u, u, .one (.bool), u, u, u, u, u, u, u, u, u, u, u, u, u, u, u, u, u, u, u, u, u, u, u, u, u, u, u, u, u, u, u, u, u, u, u, u, u, u, u, u, u, u, u, u, u, u, u, u, u, u, u, u, u, u, u, u, u, u, u, u, u, u, u, u, u, u, u, u, u, u, u, u, u, u, u, u, u, u, u, u, u, u, u, u, u, u, u, u, u, u, u, u, u, u, u, u, u, u, u, u, u, u, u, u, u, u], [], []⟩
abbrev affidavitlaw02_PrimeParts.e2_1 : Sh := ⟨[.one (.int .u64), u, u, u, u, .one (.ref 0), u, u, u, .one (.int .i64), u, u, u, u, u, u, u, u, u, u, u, u, u, u, u, u, u, u, u, u, u, u, u, u, u, u, u, u, u, u, u, u, u, u, u, u, u, u, u, u, u, u, u, u, u, u, u, u, u, u, u, u, u, u, u, u, u, u, u, u, u, u, u, u, u, u, u, u, u, u, u, u, u, u, u, u, u, u, u, u, u, u, u, u, u, u, u, u, u, u, u, u, u, u, u, u, u, u, u, u, u], [.row true 37 tPart], []⟩
noncomputable def affidavitlaw02_PrimeParts.P2 {R : Type} (k : Nat) (K : Ex → St → Option R) (rec_ : affidavitlaw02_PrimeParts.s2.den → Option R) (a : affidavitlaw02_PrimeParts.s2.den) : Option R := affidavitlaw02_PrimeParts.B2 k (fun y0 => K .ret (affidavitlaw02_PrimeParts.e2_0.enc (((), (), (), (), y0, (), (), (), (), (), (), (), (), (), (), (), (), (), (), (), (), (), (), (), (), (), (), (), (), (), (), (), (), (), (), (), (), (), (), (), (), (), (), (), (), (), (), (), (), (), (), (), (), (), (), (), (), (), (), (), (), (), (), (), (), (), (), (), (), (), (), (), (), (), (), (), (), (), (), (), (), (), (), (), (), (), (), (), (), (), (), (), (), (), (), (), (), (), (), (), (), (), (), (), (), (), (), (), (), (), (), ()), ()))) (fun y0 y1 y2 => K (.exit 2) (affidavitlaw02_PrimeParts.e2_1.enc ((y0, (), (), (), (), (), (), (), (), y1, (), (), (), (), (), (), (), (), (), (), (), (), (), (), (), (), (), (), (), (), (), (), (), (), (), (), (), (), (), (), (), (), (), (), (), (), (), (), (), (), (), (), (), (), (), (), (), (), (), (), (), (), (), (), (), (), (), (), (), (), (), (), (), (), (), (), (), (), (), (), (), (), (), (), (), (), (), (), (), (), (), (), (), (), (), (), (), (), (), (), (), (), (), (), (), (), (), (), (), (), (), ()), (y2, ())))) (fun v0 v1 v2 v3 => rec_ ((v0, (), (), (), (), (), (), (), (), v1, v2, (), (), (), (), (), (), (), (), (), (), (), (), (), (), (), (), (), (), (), (), (), (), (), (), (), (), (), (), (), (), (), (), (), (), (), (), (), (), (), (), (), (), (), (), (), (), (), (), (), (), (), (), (), (), (), (), (), (), (), (), (), (), (), (), (), (), (), (), (), (), (), (), (), (), (), (), (), (), (), (), (), (), (), (), (), (), (), (), (), (), (), (), (), (), (), (), (), (), (), (), ()), (v3, ()))) a.1.1 a.1.2.2.2.2.2.2.2.2.2.1 a.1.2.2.2.2.2.2.2.2.2.2.1 a.2.1
noncomputable def affidavitlaw02_PrimeParts.Q2 {R : Type} (k : Nat) (K : Ex → St → Option R) (m : Nat) (a : affidavitlaw02_PrimeParts.s2.den) : Option R := affidavitlaw02_PrimeParts.L2 k (fun y0 => K .ret (affidavitlaw02_PrimeParts.e2_0.enc (((), (), (), (), y0, (), (), (), (), (), (), (), (), (), (), (), (), (), (), (), (), (), (), (), (), (), (), (), (), (), (), (), (), (), (), (), (), (), (), (), (), (), (), (), (), (), (), (), (), (), (), (), (), (), (), (), (), (), (), (), (), (), (), (), (), (), (), (), (), (), (), (), (), (), (), (), (), (), (), (), (), (), (), (), (), (), (), (), (), (), (), (), (), (), (), (), (), (), (), (), (), (), (), (), (), (), (), (), (), (), (), ()), ()))) (fun y0 y1 y2 => K (.exit 2) (affidavitlaw02_PrimeParts.e2_1.enc ((y0, (), (), (), (), (), (), (), (), y1, (), (), (), (), (), (), (), (), (), (), (), (), (), (), (), (), (), (), (), (), (), (), (), (), (), (), (), (), (), (), (), (), (), (), (), (), (), (), (), (), (), (), (), (), (), (), (), (), (), (), (), (), (), (), (), (), (), (), (), (), (), (), (), (), (), (), (), (), (), (), (), (), (), (), (), (), (), (), (), (), (), (), (), (), (), (), (), (), (), (), (), (), (), (), (), (), (), (), (), (), (), ()), (y2, ())))) m a.1.1 a.1.2.2.2.2.2.2.2.2.2.1 a.1.2.2.2.2.2.2.2.2.2.2.1 a.2.1
noncomputable def affidavitlaw02_PrimeParts.H2 {R : Type} (k : Nat) (st : St) (K : Ex → St → Option R) : Option R := hookL (fun st K => aCode Cx 4 (callT k affidavitlaw02_PrimeParts.T) k (lc Try.f4 2) 2 st K) (Cx.hint 4 2) k affidavitlaw02_PrimeParts.s2.dec (affidavitlaw02_PrimeParts.Q2 k) st K
theorem affidavitlaw02_PrimeParts.h2 {R : Type} (k : Nat) (st : St) (K : Ex → St → Option R) : affidavitlaw02_PrimeParts.H2 k st K = aCode Cx 4 (callT k affidavitlaw02_PrimeParts.T) k (.loop (lc Try.f4 2)) 2 st K :=
  hookL_eq Sh.dec_ok (Φ := affidavitlaw02_PrimeParts.P2 k) (fun K a => rfl) (fun K m a => rfl) (fun K m a => loop_step (hookOf []) (allL (l' := []) (by kernel_rfl) trivial) K m _ (by kernel_rfl)) st K
abbrev affidavitlaw02_PrimeParts.s0 : Sh := ⟨[.one (.int .u64), u, u, u, u, .one (.ref 0), u, u, u, .one (.int .i64), u, u, u, u, u, u, u, u, u, u, u, u, u, u, u, u, u, u, u, u, u, u, u, u, u, u, u, u, u, u, u, u, u, u, u, u, u, u, u, u, u, u, u, u, u, u, u, u, u, u, u, u, u, u, u, u, u, u, u, u, u, u, u, u, u, u, u, u, u, u, u, u, u, u, u, u, u, u, u, u, u, u, u, u, u, u, u, u, u, u, u, u, u, u, u, u, u, u, u, u, u], [.row true 37 tPart], []⟩
abbrev affidavitlaw02_PrimeParts.e0_0 : Sh := ⟨[u, u, u, u, .one (.bool), u, u, u, u, u, u, u, u, u, u, u, u, u, u, u, u, u, u, u, u, u, u, u, u, u, u, u, u, u, u, u, u, u, u, u, u, u, u, u, u, u, u, u, u, u, u, u, u, u, u, u, u, u, u, u, u, u, u, u, u, u, u, u, u, u, u, u, u, u, u, u, u, u, u, u, u, u, u, u, u, u, u, u, u, u, u, u, u, u, u, u, u, u, u, u, u, u, u, u, u, u, u, u, u, u, u], [], []⟩
abbrev affidavitlaw02_PrimeParts.e0_1 : Sh := ⟨[.one (.int .u64), u, u, u, u, u, u, u, u, u, u, u, u, u, u, u, u, u, u, u, u, u, u, u, u, u, u, u, u, u, u, u, u, u, u, u, u, u, u, u, u, u, u, u, u, u, u, u, u, u, u, u, u, u, u, u, u, u, u, u, u, u, u, u, u, u, u, u, u, u, u, u, u, u, u, u, u, u, u, u, u, u, u, u, u, u, u, u, u, u, u, u, u, u, u, u, u, u, u, u, u, u, u, u, u, u, u, u, u, u, u], [], []⟩
noncomputable def affidavitlaw02_PrimeParts.P0 {R : Type} (k : Nat) (K : Ex → St → Option R) (rec_ : affidavitlaw02_PrimeParts.s0.den → Option R) (a : affidavitlaw02_PrimeParts.s0.den) : Option R := affidavitlaw02_PrimeParts.B0 k (fun y0 => K .ret (affidavitlaw02_PrimeParts.e0_0.enc (((), (), (), (), y0, (), (), (), (), (), (), (), (), (), (), (), (), (), (), (), (), (), (), (), (), (), (), (), (), (), (), (), (), (), (), (), (), (), (), (), (), (), (), (), (), (), (), (), (), (), (), (), (), (), (), (), (), (), (), (), (), (), (), (), (), (), (), (), (), (), (), (), (), (), (), (), (), (), (), (), (), (), (), (), (), (), (), (), (), (), (), (), (), (), (), (), (), (), (), (), (), (), (), (), (), (), (), (), (), (), (), ()), ()))) (fun y0 => K (.exit 0) (affidavitlaw02_PrimeParts.e0_1.enc ((y0, (), (), (), (), (), (), (), (), (), (), (), (), (), (), (), (), (), (), (), (), (), (), (), (), (), (), (), (), (), (), (), (), (), (), (), (), (), (), (), (), (), (), (), (), (), (), (), (), (), (), (), (), (), (), (), (), (), (), (), (), (), (), (), (), (), (), (), (), (), (), (), (), (), (), (), (), (), (), (), (), (), (), (), (), (), (), (), (), (), (), (), (), (), (), (), (), (), (), (), (), (), (), (), (), (), (), (), (), (), (), ()), ()))) (fun v0 v1 v2 => rec_ ((v0, (), (), (), (), (), (), (), (), v1, (), (), (), (), (), (), (), (), (), (), (), (), (), (), (), (), (), (), (), (), (), (), (), (), (), (), (), (), (), (), (), (), (), (), (), (), (), (), (), (), (), (), (), (), (), (), (), (), (), (), (), (), (), (), (), (), (), (), (), (), (), (), (), (), (), (), (), (), (), (), (), (), (), (), (), (), (), (), (), (), (), (), (), (), (), (), (), (), (), (), (), (), (), (), (), (), (), (), (), (), (), ()), (v2, ()))) a.1.1 a.1.2.2.2.2.2.2.2.2.2.1 a.2.1
noncomputable def affidavitlaw02_PrimeParts.Q0 {R : Type} (k : Nat) (K : Ex → St → Option R) (m : Nat) (a : affidavitlaw02_PrimeParts.s0.den) : Option R := affidavitlaw02_PrimeParts.L0 k (fun y0 => K .ret (affidavitlaw02_PrimeParts.e0_0.enc (((), (), (), (), y0, (), (), (), (), (), (), (), (), (), (), (), (), (), (), (), (), (), (), (), (), (), (), (), (), (), (), (), (), (), (), (), (), (), (), (), (), (), (), (), (), (), (), (), (), (), (), (), (), (), (), (), (), (), (), (), (), (), (), (), (), (), (), (), (), (), (), (), (), (), (), (), (), (), (), (), (), (), (), (), (), (), (), (), (), (), (), (), (), (), (), (), (), (), (), (), (), (), (), (), (), (), (), (), (), (), (), ()), ()))) (fun y0 => K (.exit 0) (affidavitlaw02_PrimeParts.e0_1.enc ((y0, (), (), (), (), (), (), (), (), (), (), (), (), (), (), (), (), (), (), (), (), (), (), (), (), (), (), (), (), (), (), (), (), (), (), (), (), (), (), (), (), (), (), (), (), (), (), (), (), (), (), (), (), (), (), (), (), (), (), (), (), (), (), (), (), (), (), (), (), (), (), (), (), (), (), (), (), (), (), (), (), (), (), (), (), (), (), (), (), (), (), (), (), (), (), (), (), (), (), (), (), (), (), (), (), (), (), (), (), (), (), ()), ()))) m a.1.1 a.1.2.2.2.2.2.2.2.2.2.1 a.2.1
noncomputable def affidavitlaw02_PrimeParts.H0 {R : Type} (k : Nat) (st : St) (K : Ex → St → Option R) : Option R := hookL (fun st K => aCode Cx 4 (callT k affidavitlaw02_PrimeParts.T) k (lc Try.f4 0) 0 st K) (Cx.hint 4 0) k affidavitlaw02_PrimeParts.s0.dec (affidavitlaw02_PrimeParts.Q0 k) st K
theorem affidavitlaw02_PrimeParts.h0 {R : Type} (k : Nat) (st : St) (K : Ex → St → Option R) : affidavitlaw02_PrimeParts.H0 k st K = aCode Cx 4 (callT k affidavitlaw02_PrimeParts.T) k (.loop (lc Try.f4 0)) 0 st K :=
  hookL_eq Sh.dec_ok (Φ := affidavitlaw02_PrimeParts.P0 k) (fun K a => rfl) (fun K m a => rfl) (fun K m a => loop_step (hookOf [(2, affidavitlaw02_PrimeParts.H2 k)]) (allL (l' := [(2, lc Try.f4 2)]) (by kernel_rfl) ⟨affidavitlaw02_PrimeParts.h2 k, trivial⟩) K m _ (by kernel_rfl)) st K
abbrev affidavitlaw02_PrimeParts.as : List AS := [.ty (.int .u64), .ty (.int .u64)]
abbrev affidavitlaw02_PrimeParts.hs : List SS := []
abbrev affidavitlaw02_PrimeParts.rts : List CV := []
abbrev affidavitlaw02_PrimeParts.rs : VS := .one (.bool)
noncomputable def affidavitlaw02_PrimeParts.g : Nat → {R : Type} → HA affidavitlaw02_PrimeParts.as × HS affidavitlaw02_PrimeParts.hs → (affidavitlaw02_PrimeParts.rs.den → Option R) → Option R := fun k {R} a ret => affidavitlaw02_PrimeParts.f k a.1.1 a.1.2.1 (fun y0 => ret y0)
noncomputable def affidavitlaw02_PrimeParts.E : Entry Try.prog Cx pr where
  id := 4
  args := affidavitlaw02_PrimeParts.as
  heap := affidavitlaw02_PrimeParts.hs
  roots := affidavitlaw02_PrimeParts.rts
  res := affidavitlaw02_PrimeParts.rs
  f := affidavitlaw02_PrimeParts.g
  ok := entry_ok (args := affidavitlaw02_PrimeParts.as) (heap := affidavitlaw02_PrimeParts.hs) (roots := affidavitlaw02_PrimeParts.rts) (res := affidavitlaw02_PrimeParts.rs) (f := affidavitlaw02_PrimeParts.g) rfl Try.func4 affidavitlaw02_PrimeParts.T rfl (fun a K => rfl) (fun k {R} a K => fun_step (c := (Try.f4.body).getD .skip) (by kernel_rfl) (hookOf [(0, affidavitlaw02_PrimeParts.H0 k)]) (allL (l' := [(0, lc Try.f4 0)]) (by kernel_rfl) ⟨affidavitlaw02_PrimeParts.h0 k, trivial⟩) _ K (by kernel_rfl))

/-! ### affidavit/affidavitref02.Root: function 22 -/
noncomputable def affidavitref02_Root.B2 {R : Type} (k : Nat) (x0_ : Int → List (Int × Int) → Int → Bool → Option R) (rec_ : Int → List (Int × Int) → Int → Bool → Int → Option R) (p2 : Int) (l2 : List (Int × Int)) (g1 : Int) (ok : Bool) (i : Int) : Option R :=
  bif (decide (i < (l2.length : Int))) then
    (bif ok then
      (bif (decide (0 ≤ i) && decide (i < (l2.length : Int))) then (bif (((l2.getD i.toNat (0, 0)).1) != 0) then (affidavitref01_Pow.f k p2 g1 (IntKind.wrap .u64 (Int.tdiv (IntKind.wrap .u64 (p2 - 1)) (l2.getD i.toNat (0, 0)).1)) (fun n =>
        rec_ p2 l2 g1 (n != 1) (IntKind.wrap .i64 (i + 1)))) else none) else none)
    else
      (rec_ p2 l2 g1 false (IntKind.wrap .i64 (i + 1))))
  else
    (x0_ p2 l2 g1 ok)
noncomputable def affidavitref02_Root.L2 {R : Type} (k : Nat) (x0_ : Int → List (Int × Int) → Int → Bool → Option R) : Nat → Int → List (Int × Int) → Int → Bool → Int → Option R
  | 0, _, _, _, _, _ => none
  | m + 1, p2, l2, g1, ok, i => affidavitref02_Root.B2 k x0_ (affidavitref02_Root.L2 k x0_ m) p2 l2 g1 ok i
noncomputable def affidavitref02_Root.B0 {R : Type} (k : Nat) (x0_ : Int → Option R) (x1_ : Unit → Option R) (rec_ : Int → List (Int × Int) → Int → Option R) (p1 : Int) (l1 : List (Int × Int)) (g : Int) : Option R :=
  bif (decide (g < p1)) then
    (affidavitref02_Root.L2 k (fun p3 l3 g2 ok1 =>
      bif ok1 then
        (x0_ g2)
      else
        (rec_ p3 l3 (IntKind.wrap .u64 (g2 + 1)))) k p1 l1 g true 0)
  else
    (x1_ ())
noncomputable def affidavitref02_Root.L0 {R : Type} (k : Nat) (x0_ : Int → Option R) (x1_ : Unit → Option R) : Nat → Int → List (Int × Int) → Int → Option R
  | 0, _, _, _ => none
  | m + 1, p1, l1, g => affidavitref02_Root.B0 k x0_ x1_ (affidavitref02_Root.L0 k x0_ x1_ m) p1 l1 g
noncomputable def affidavitref02_Root.f {R : Type} : Nat → Int → (List (Int × Int)) → (Int → Option R) → Option R
  | 0, _, _, _ => none
  | k + 1, p, l, ret =>
    affidavitref02_Root.L0 k (fun t4 =>
      ret t4) (fun _ =>
      ret 0) k p l 1
noncomputable def affidavitref02_Root.T : List (Entry Try.prog Cx pr) := [affidavitref01_Pow.E]
abbrev affidavitref02_Root.s2 : Sh := ⟨[.one (.int .u64), .one (.vsl tPart), u, u, u, .one (.int .u64), .one (.bool), .one (.int .i64), u, u, u, u, u, u, u, u, u, u, u, u, u, u, u, u, u, u, u, u, u, u, u, u, u, u, u, u], [], []⟩
abbrev affidavitref02_Root.e2_0 : Sh := ⟨[.one (.int .u64), .one (.vsl tPart), u, u, u, .one (.int .u64), .one (.bool), u, u, u, u, u, u, u, u, u, u, u, u, u, u, u, u, u, u, u, u, u, u, u, u, u, u, u, u, u], [], []⟩
noncomputable def affidavitref02_Root.P2 {R : Type} (k : Nat) (K : Ex → St → Option R) (rec_ : affidavitref02_Root.s2.den → Option R) (a : affidavitref02_Root.s2.den) : Option R := affidavitref02_Root.B2 k (fun y0 y1 y2 y3 => K (.exit 2) (affidavitref02_Root.e2_0.enc ((y0, y1, (), (), (), y2, y3, (), (), (), (), (), (), (), (), (), (), (), (), (), (), (), (), (), (), (), (), (), (), (), (), (), (), (), (), (), ()), ()))) (fun v0 v1 v2 v3 v4 => rec_ ((v0, v1, (), (), (), v2, v3, v4, (), (), (), (), (), (), (), (), (), (), (), (), (), (), (), (), (), (), (), (), (), (), (), (), (), (), (), (), ()), ())) a.1.1 a.1.2.1 a.1.2.2.2.2.2.1 a.1.2.2.2.2.2.2.1 a.1.2.2.2.2.2.2.2.1
noncomputable def affidavitref02_Root.Q2 {R : Type} (k : Nat) (K : Ex → St → Option R) (m : Nat) (a : affidavitref02_Root.s2.den) : Option R := affidavitref02_Root.L2 k (fun y0 y1 y2 y3 => K (.exit 2) (affidavitref02_Root.e2_0.enc ((y0, y1, (), (), (), y2, y3, (), (), (), (), (), (), (), (), (), (), (), (), (), (), (), (), (), (), (), (), (), (), (), (), (), (), (), (), (), ()), ()))) m a.1.1 a.1.2.1 a.1.2.2.2.2.2.1 a.1.2.2.2.2.2.2.1 a.1.2.2.2.2.2.2.2.1
noncomputable def affidavitref02_Root.H2 {R : Type} (k : Nat) (st : St) (K : Ex → St → Option R) : Option R := hookL (fun st K => aCode Cx 22 (callT k affidavitref02_Root.T) k (lc Try.f22 2) 2 st K) (Cx.hint 22 2) k affidavitref02_Root.s2.dec (affidavitref02_Root.Q2 k) st K
theorem affidavitref02_Root.h2 {R : Type} (k : Nat) (st : St) (K : Ex → St → Option R) : affidavitref02_Root.H2 k st K = aCode Cx 22 (callT k affidavitref02_Root.T) k (.loop (lc Try.f22 2)) 2 st K :=
  hookL_eq Sh.dec_ok (Φ := affidavitref02_Root.P2 k) (fun K a => rfl) (fun K m a => rfl) (fun K m a => loop_step (hookOf []) (allL (l' := []) (by kernel_rfl) trivial) K m _ (by kernel_rfl)) st K
abbrev affidavitref02_Root.s0 : Sh := ⟨[.one (.int .u64), .one (.vsl tPart), u, u, u, .one (.int .u64), u, u, u, u, u, u, u, u, u, u, u, u, u, u, u, u, u, u, u, u, u, u, u, u, u, u, u, u, u, u], [], []⟩
abbrev affidavitref02_Root.e0_0 : Sh := ⟨[u, u, u, u, .one (.int .u64), u, u, u, u, u, u, u, u, u, u, u, u, u, u, u, u, u, u, u, u, u, u, u, u, u, u, u, u, u, u, u], [], []⟩
abbrev affidavitref02_Root.e0_1 : Sh := ⟨[u, u, u, u, u, u, u, u, u, u, u, u, u, u, u, u, u, u, u, u, u, u, u, u, u, u, u, u, u, u, u, u, u, u, u, u], [], []⟩
noncomputable def affidavitref02_Root.P0 {R : Type} (k : Nat) (K : Ex → St → Option R) (rec_ : affidavitref02_Root.s0.den → Option R) (a : affidavitref02_Root.s0.den) : Option R := affidavitref02_Root.B0 k (fun y0 => K .ret (affidavitref02_Root.e0_0.enc (((), (), (), (), y0, (), (), (), (), (), (), (), (), (), (), (), (), (), (), (), (), (), (), (), (), (), (), (), (), (), (), (), (), (), (), (), ()), ()))) (fun _ => K (.exit 0) (affidavitref02_Root.e0_1.enc (((), (), (), (), (), (), (), (), (), (), (), (), (), (), (), (), (), (), (), (), (), (), (), (), (), (), (), (), (), (), (), (), (), (), (), (), ()), ()))) (fun v0 v1 v2 => rec_ ((v0, v1, (), (), (), v2, (), (), (), (), (), (), (), (), (), (), (), (), (), (), (), (), (), (), (), (), (), (), (), (), (), (), (), (), (), (), ()), ())) a.1.1 a.1.2.1 a.1.2.2.2.2.2.1
noncomputable def affidavitref02_Root.Q0 {R : Type} (k : Nat) (K : Ex → St → Option R) (m : Nat) (a : affidavitref02_Root.s0.den) : Option R := affidavitref02_Root.L0 k (fun y0 => K .ret (affidavitref02_Root.e0_0.enc (((), (), (), (), y0, (), (), (), (), (), (), (), (), (), (), (), (), (), (), (), (), (), (), (), (), (), (), (), (), (), (), (), (), (), (), (), ()), ()))) (fun _ => K (.exit 0) (affidavitref02_Root.e0_1.enc (((), (), (), (), (), (), (), (), (), (), (), (), (), (), (), (), (), (), (), (), (), (), (), (), (), (), (), (), (), (), (), (), (), (), (), (), ()), ()))) m a.1.1 a.1.2.1 a.1.2.2.2.2.2.1
noncomputable def affidavitref02_Root.H0 {R : Type} (k : Nat) (st : St) (K : Ex → St → Option R) : Option R := hookL (fun st K => aCode Cx 22 (callT k affidavitref02_Root.T) k (lc Try.f22 0) 0 st K) (Cx.hint 22 0) k affidavitref02_Root.s0.dec (affidavitref02_Root.Q0 k) st K
theorem affidavitref02_Root.h0 {R : Type} (k : Nat) (st : St) (K : Ex → St → Option R) : affidavitref02_Root.H0 k st K = aCode Cx 22 (callT k affidavitref02_Root.T) k (.loop (lc Try.f22 0)) 0 st K :=
  hookL_eq Sh.dec_ok (Φ := affidavitref02_Root.P0 k) (fun K a => rfl) (fun K m a => rfl) (fun K m a => loop_step (hookOf [(2, affidavitref02_Root.H2 k)]) (allL (l' := [(2, lc Try.f22 2)]) (by kernel_rfl) ⟨affidavitref02_Root.h2 k, trivial⟩) K m _ (by kernel_rfl)) st K
abbrev affidavitref02_Root.as : List AS := [.ty (.int .u64), .ty (.sl tPart)]
abbrev affidavitref02_Root.hs : List SS := []
abbrev affidavitref02_Root.rts : List CV := []
abbrev affidavitref02_Root.rs : VS := .one (.int .u64)
noncomputable def affidavitref02_Root.g : Nat → {R : Type} → HA affidavitref02_Root.as × HS affidavitref02_Root.hs → (affidavitref02_Root.rs.den → Option R) → Option R := fun k {R} a ret => affidavitref02_Root.f k a.1.1 a.1.2.1 (fun y0 => ret y0)
noncomputable def affidavitref02_Root.E : Entry Try.prog Cx pr where
  id := 22
  args := affidavitref02_Root.as
  heap := affidavitref02_Root.hs
  roots := affidavitref02_Root.rts
  res := affidavitref02_Root.rs
  f := affidavitref02_Root.g
  ok := entry_ok (args := affidavitref02_Root.as) (heap := affidavitref02_Root.hs) (roots := affidavitref02_Root.rts) (res := affidavitref02_Root.rs) (f := affidavitref02_Root.g) rfl Try.func22 affidavitref02_Root.T rfl (fun a K => rfl) (fun k {R} a K => fun_step (c := (Try.f22.body).getD .skip) (by kernel_rfl) (hookOf [(0, affidavitref02_Root.H0 k)]) (allL (l' := [(0, lc Try.f22 0)]) (by kernel_rfl) ⟨affidavitref02_Root.h0 k, trivial⟩) _ K (by kernel_rfl))

/-! ### affidavit/affidavitlaw02.PrimeBuilds: function 5 -/
noncomputable def affidavitlaw02_PrimeBuilds.B4 {R : Type} (k : Nat) (x0_ : Int → Int → Bool → Int → List (Int × Int × List (Int × Int)) → Option R) (rec_ : Int → Int → Bool → Int → Int → List (Int × Int × List (Int × Int)) → Option R) (p3 : Int) (i2 : Int) (need1 : Bool) (j1 : Int) (n3 : Int) (l4 : List (Int × Int × List (Int × Int))) : Option R :=
  bif (decide (0 ≤ j1) && decide (j1 < (l4.length : Int))) then (bif (decide (n3 < ((((l4.getD j1.toNat (0, 0, [])).2).2).length : Int))) then
    (bif need1 then
      (rec_ p3 i2 true j1 (IntKind.wrap .i64 (n3 + 1)) l4)
    else
      (bif (decide (0 ≤ j1) && decide (j1 < (l4.length : Int))) then (bif (decide (0 ≤ n3) && decide (n3 < ((((l4.getD j1.toNat (0, 0, [])).2).2).length : Int))) then (bif (decide (0 ≤ i2) && decide (i2 < (l4.length : Int))) then (rec_ p3 i2 ((((((l4.getD j1.toNat (0, 0, [])).2).2).getD n3.toNat (0, 0)).1) == (l4.getD i2.toNat (0, 0, [])).1) j1 (IntKind.wrap .i64 (n3 + 1)) l4) else none) else none) else none))
  else
    (x0_ p3 i2 need1 j1 l4)) else none
noncomputable def affidavitlaw02_PrimeBuilds.L4 {R : Type} (k : Nat) (x0_ : Int → Int → Bool → Int → List (Int × Int × List (Int × Int)) → Option R) : Nat → Int → Int → Bool → Int → Int → List (Int × Int × List (Int × Int)) → Option R
  | 0, _, _, _, _, _, _ => none
  | m + 1, p3, i2, need1, j1, n3, l4 => affidavitlaw02_PrimeBuilds.B4 k x0_ (affidavitlaw02_PrimeBuilds.L4 k x0_ m) p3 i2 need1 j1 n3 l4
noncomputable def affidavitlaw02_PrimeBuilds.B2 {R : Type} (k : Nat) (x0_ : Int → Int → Bool → List (Int × Int × List (Int × Int)) → Option R) (rec_ : Int → Int → Bool → Int → List (Int × Int × List (Int × Int)) → Option R) (p2 : Int) (i1 : Int) (need : Bool) (j : Int) (l3 : List (Int × Int × List (Int × Int))) : Option R :=
  bif (decide (j < (l3.length : Int))) then
    (affidavitlaw02_PrimeBuilds.L4 k (fun p4 i3 need2 j2 l5 =>
      rec_ p4 i3 need2 (IntKind.wrap .i64 (j2 + 1)) l5) k p2 i1 need j 0 l3)
  else
    (x0_ p2 i1 need l3)
noncomputable def affidavitlaw02_PrimeBuilds.L2 {R : Type} (k : Nat) (x0_ : Int → Int → Bool → List (Int × Int × List (Int × Int)) → Option R) : Nat → Int → Int → Bool → Int → List (Int × Int × List (Int × Int)) → Option R
  | 0, _, _, _, _, _ => none
  | m + 1, p2, i1, need, j, l3 => affidavitlaw02_PrimeBuilds.B2 k x0_ (affidavitlaw02_PrimeBuilds.L2 k x0_ m) p2 i1 need j l3
noncomputable def affidavitlaw02_PrimeBuilds.B0 {R : Type} (k : Nat) (x0_ : Bool → Option R) (x1_ : Int → List (Int × Int × List (Int × Int)) → Option R) (rec_ : Int → Int → List (Int × Int × List (Int × Int)) → Option R) (p1 : Int) (i : Int) (l1 : List (Int × Int × List (Int × Int))) : Option R :=
  bif (decide (i < (l1.length : Int))) then
    (bif (decide (0 ≤ i) && decide (i < (l1.length : Int))) then (affidavitref02_Parts.f k (IntKind.wrap .u64 (((l1.getD i.toNat (0, 0, [])).1) - 1)) (fun l2 n1 =>
      bif (decide (0 ≤ i) && decide (i < (l1.length : Int))) then (affidavitref02_Same.f k (((l1.getD i.toNat (0, 0, [])).2).2) l2 (fun b3 =>
        bif (!b3) then
          (x0_ false)
        else
          (bif (decide (0 ≤ i) && decide (i < (l1.length : Int))) then (bif (decide (0 ≤ i) && decide (i < (l1.length : Int))) then (affidavitref02_Root.f k ((l1.getD i.toNat (0, 0, [])).1) l2 (fun n2 =>
            bif ((((l1.getD i.toNat (0, 0, [])).2).1) != n2) then
              (x0_ false)
            else
              (bif (decide (0 ≤ i) && decide (i < (l1.length : Int))) then (affidavitlaw02_PrimeBuilds.L2 k (fun p5 i4 need3 l6 =>
                bif (!need3) then
                  (x0_ false)
                else
                  (rec_ p5 (IntKind.wrap .i64 (i4 + 1)) l6)) k p1 i (((l1.getD i.toNat (0, 0, [])).1) == p1) (IntKind.wrap .i64 (i + 1)) l1) else none))) else none) else none))) else none)) else none)
  else
    (x1_ p1 l1)
noncomputable def affidavitlaw02_PrimeBuilds.L0 {R : Type} (k : Nat) (x0_ : Bool → Option R) (x1_ : Int → List (Int × Int × List (Int × Int)) → Option R) : Nat → Int → Int → List (Int × Int × List (Int × Int)) → Option R
  | 0, _, _, _ => none
  | m + 1, p1, i, l1 => affidavitlaw02_PrimeBuilds.B0 k x0_ x1_ (affidavitlaw02_PrimeBuilds.L0 k x0_ x1_ m) p1 i l1
noncomputable def affidavitlaw02_PrimeBuilds.f {R : Type} : Nat → Int → (Bool → Option R) → Option R
  | 0, _, _ => none
  | k + 1, p, ret =>
    affidavitlaw02_awake.f k (fun b =>
      bif (!b) then
        (ret false)
      else
        (bif ((16777216 : Int) != 0) then (prime_Build.f k (Int.tmod p 16777216) (fun l n =>
          bif (decide ((Int.tmod p 16777216) < 2)) then
            (bif (n == 1) then
              (ret ((l.length : Int) == 0))
            else
              (ret false))
          else
            (affidavitref02_Is.f k (Int.tmod p 16777216) (fun b1 =>
              bif (!((n == 0) == b1)) then
                (ret false)
              else
                (bif (n != 0) then
                  (bif (n == 6) then
                    (ret ((l.length : Int) == 0))
                  else
                    (ret false))
                else
                  (prime_Shows.f k l (Int.tmod p 16777216) (fun b2 =>
                    bif (!b2) then
                      (ret false)
                    else
                      (bif (!(((Int.tmod p 16777216) == 2) == ((l.length : Int) == 0))) then
                        (ret false)
                      else
                        (affidavitlaw02_PrimeBuilds.L0 k (fun t2 =>
                          ret t2) (fun p6 l7 =>
                          bif ((l7.length : Int) == 0) then
                            (ret true)
                          else
                            (bif (decide (0 ≤ (IntKind.wrap .i64 ((l7.length : Int) - 1))) && decide ((IntKind.wrap .i64 ((l7.length : Int) - 1)) < (l7.length : Int))) then (ret (((l7.getD ((IntKind.wrap .i64 ((l7.length : Int) - 1)).toNat) (0, 0, [])).1) == p6)) else none)) k (Int.tmod p 16777216) 0 l))))))))) else none))
noncomputable def affidavitlaw02_PrimeBuilds.T : List (Entry Try.prog Cx pr) := [affidavitlaw02_awake.E, prime_Build.E, affidavitref02_Is.E, prime_Shows.E, affidavitref02_Parts.E, affidavitref02_Same.E, affidavitref02_Root.E]
abbrev affidavitlaw02_PrimeBuilds.s4 : Sh := ⟨[.one (.int .u64), u, u, .one (.ref 0), u, .one (.int .i64), u, u, .one (.bool), .one (.int .i64), .one (.int .i64), u, u, u, u, u, u, u, u, u, u, u, u, u, u, u, u, u, u, u, u, u, u, u, u, u, u, u, u, u, u, u, u, u, u, u, u, u, u, u, u, u, u, u, u, u, u, u, u, u, u, u, u, u, u, u, u, u, u, u, u, u, u, u, u, u, u, u, u, u, u, u, u, u, u, u, u, u, u, u, u, u, u, u, u, u, u, u, u, u, u, u, u, u, u, u, u, u, u, u, u, u, u, u, u, u, u, u, u, u, u, u, u, u, u, u, u, u, u, u, u, u, u, u, u, u, u, u, u, u, u, u, u, u, u, u, u, u, u, u, u, u, u], [.row true 42 tProof], []⟩
abbrev affidavitlaw02_PrimeBuilds.e4_0 : Sh := ⟨[.one (.int .u64), u, u, .one (.ref 0), u, .one (.int .i64), u, u, .one (.bool), .one (.int .i64), u, u, u, u, u, u, u, u, u, u, u, u, u, u, u, u, u, u, u, u, u, u, u, u, u, u, u, u, u, u, u, u, u, u, u, u, u, u, u, u, u, u, u, u, u, u, u, u, u, u, u, u, u, u, u, u, u, u, u, u, u, u, u, u, u, u, u, u, u, u, u, u, u, u, u, u, u, u, u, u, u, u, u, u, u, u, u, u, u, u, u, u, u, u, u, u, u, u, u, u, u, u, u, u, u, u, u, u, u, u, u, u, u, u, u, u, u, u, u, u, u, u, u, u, u, u, u, u, u, u, u, u, u, u, u, u, u, u, u, u, u, u, u], [.row true 42 tProof], []⟩
noncomputable def affidavitlaw02_PrimeBuilds.P4 {R : Type} (k : Nat) (K : Ex → St → Option R) (rec_ : affidavitlaw02_PrimeBuilds.s4.den → Option R) (a : affidavitlaw02_PrimeBuilds.s4.den) : Option R := affidavitlaw02_PrimeBuilds.B4 k (fun y0 y1 y2 y3 y4 => K (.exit 4) (affidavitlaw02_PrimeBuilds.e4_0.enc ((y0, (), (), (), (), y1, (), (), y2, y3, (), (), (), (), (), (), (), (), (), (), (), (), (), (), (), (), (), (), (), (), (), (), (), (), (), (), (), (), (), (), (), (), (), (), (), (), (), (), (), (), (), (), (), (), (), (), (), (), (), (), (), (), (), (), (), (), (), (), (), (), (), (), (), (), (), (), (), (), (), (), (), (), (), (), (), (), (), (), (), (), (), (), (), (), (), (), (), (), (), (), (), (), (), (), (), (), (), (), (), (), (), (), (), (), (), (), (), (), (), (), (), (), (), (), (), (), (), (), (), (), (), (), (), (), (), (), (), (), (), (), (), (), (), (), (), (), (), (), (), (), (), (), (), ()), (y4, ())))) (fun v0 v1 v2 v3 v4 v5 => rec_ ((v0, (), (), (), (), v1, (), (), v2, v3, v4, (), (), (), (), (), (), (), (), (), (), (), (), (), (), (), (), (), (), (), (), (), (), (), (), (), (), (), (), (), (), (), (), (), (), (), (), (), (), (), (), (), (), (), (), (), (), (), (), (), (), (), (), (), (), (), (), (), (), (), (), (), (), (), (), (), (), (), (), (), (), (), (), (), (), (), (), (), (), (), (), (), (), (), (), (), (), (), (), (), (), (), (), (), (), (), (), (), (), (), (), (), (), (), (), (), (), (), (), (), (), (), (), (), (), (), (), (), (), (), (), (), (), (), (), (), (), (), (), (), (), (), (), (), (), (), (), (), (), (), (), (), (), ()), (v5, ()))) a.1.1 a.1.2.2.2.2.2.1 a.1.2.2.2.2.2.2.2.2.1 a.1.2.2.2.2.2.2.2.2.2.1 a.1.2.2.2.2.2.2.2.2.2.2.1 a.2.1
noncomputable def affidavitlaw02_PrimeBuilds.Q4 {R : Type} (k : Nat) (K : Ex → St → Option R) (m : Nat) (a : affidavitlaw02_PrimeBuilds.s4.den) : Option R := affidavitlaw02_PrimeBuilds.L4 k (fun y0 y1 y2 y3 y4 => K (.exit 4) (affidavitlaw02_PrimeBuilds.e4_0.enc ((y0, (), (), (), (), y1, (), (), y2, y3, (), (), (), (), (), (), (), (), (), (), (), (), (), (), (), (), (), (), (), (), (), (), (), (), (), (), (), (), (), (), (), (), (), (), (), (), (), (), (), (), (), (), (), (), (), (), (), (), (), (), (), (), (), (), (), (), (), (), (), (), (), (), (), (), (), (), (), (), (), (), (), (), (), (), (), (), (), (), (), (), (), (), (), (), (), (), (), (), (), (), (), (), (), (), (), (), (), (), (), (), (), (), (), (), (), (), (), (), (), (), (), (), (), (), (), (), (), (), (), (), (), (), (), (), (), (), (), (), (), (), (), (), (), (), (), (), (), (), (), (), (), (), (), ()), (y4, ())))) m a.1.1 a.1.2.2.2.2.2.1 a.1.2.2.2.2.2.2.2.2.1 a.1.2.2.2.2.2.2.2.2.2.1 a.1.2.2.2.2.2.2.2.2.2.2.1 a.2.1
noncomputable def affidavitlaw02_PrimeBuilds.H4 {R : Type} (k : Nat) (st : St) (K : Ex → St → Option R) : Option R := hookL (fun st K => aCode Cx 5 (callT k affidavitlaw02_PrimeBuilds.T) k (lc Try.f5 4) 4 st K) (Cx.hint 5 4) k affidavitlaw02_PrimeBuilds.s4.dec (affidavitlaw02_PrimeBuilds.Q4 k) st K
theorem affidavitlaw02_PrimeBuilds.h4 {R : Type} (k : Nat) (st : St) (K : Ex → St → Option R) : affidavitlaw02_PrimeBuilds.H4 k st K = aCode Cx 5 (callT k affidavitlaw02_PrimeBuilds.T) k (.loop (lc Try.f5 4)) 4 st K :=
  hookL_eq Sh.dec_ok (Φ := affidavitlaw02_PrimeBuilds.P4 k) (fun K a => rfl) (fun K m a => rfl) (fun K m a => loop_step (hookOf []) (allL (l' := []) (by kernel_rfl) trivial) K m _ (by kernel_rfl)) st K
abbrev affidavitlaw02_PrimeBuilds.s2 : Sh := ⟨[.one (.int .u64), u, u, .one (.ref 0), u, .one (.int .i64), u, u, .one (.bool), .one (.int .i64), u, u, u, u, u, u, u, u, u, u, u, u, u, u, u, u, u, u, u, u, u, u, u, u, u, u, u, u, u, u, u, u, u, u, u, u, u, u, u, u, u, u, u, u, u, u, u, u, u, u, u, u, u, u, u, u, u, u, u, u, u, u, u, u, u, u, u, u, u, u, u, u, u, u, u, u, u, u, u, u, u, u, u, u, u, u, u, u, u, u, u, u, u, u, u, u, u, u, u, u, u, u, u, u, u, u, u, u, u, u, u, u, u, u, u, u, u, u, u, u, u, u, u, u, u, u, u, u, u, u, u, u, u, u, u, u, u, u, u, u, u, u, u], [.row true 42 tProof], []⟩
abbrev affidavitlaw02_PrimeBuilds.e2_0 : Sh := ⟨[.one (.int .u64), u, u, .one (.ref 0), u, .one (.int .i64), u, u, .one (.bool), u, u, u, u, u, u, u, u, u, u, u, u, u, u, u, u, u, u, u, u, u, u, u, u, u, u, u, u, u, u, u, u, u, u, u, u, u, u, u, u, u, u, u, u, u, u, u, u, u, u, u, u, u, u, u, u, u, u, u, u, u, u, u, u, u, u, u, u, u, u, u, u, u, u, u, u, u, u, u, u, u, u, u, u, u, u, u, u, u, u, u, u, u, u, u, u, u, u, u, u, u, u, u, u, u, u, u, u, u, u, u, u, u, u, u, u, u, u, u, u, u, u, u, u, u, u, u, u, u, u, u, u, u, u, u, u, u, u, u, u, u, u, u, u], [.row true 42 tProof], []⟩
noncomputable def affidavitlaw02_PrimeBuilds.P2 {R : Type} (k : Nat) (K : Ex → St → Option R) (rec_ : affidavitlaw02_PrimeBuilds.s2.den → Option R) (a : affidavitlaw02_PrimeBuilds.s2.den) : Option R := affidavitlaw02_PrimeBuilds.B2 k (fun y0 y1 y2 y3 => K (.exit 2) (affidavitlaw02_PrimeBuilds.e2_0.enc ((y0, (), (), (), (), y1, (), (), y2, (), (), (), (), (), (), (), (), (), (), (), (), (), (), (), (), (), (), (), (), (), (), (), (), (), (), (), (), (), (), (), (), (), (), (), (), (), (), (), (), (), (), (), (), (), (), (), (), (), (), (), (), (), (), (), (), (), (), (), (), (), (), (), (), (), (), (), (), (), (), (), (), (), (), (), (), (), (), (), (), (), (), (), (), (), (), (), (), (), (), (), (), (), (), (), (), (), (), (), (), (), (), (), (), (), (), (), (), (), (), (), (), (), (), (), (), (), (), (), (), (), (), (), (), (), (), (), (), (), (), (), (), (), (), (), (), (), (), (), (), (), (), (), (), ()), (y3, ())))) (fun v0 v1 v2 v3 v4 => rec_ ((v0, (), (), (), (), v1, (), (), v2, v3, (), (), (), (), (), (), (), (), (), (), (), (), (), (), (), (), (), (), (), (), (), (), (), (), (), (), (), (), (), (), (), (), (), (), (), (), (), (), (), (), (), (), (), (), (), (), (), (), (), (), (), (), (), (), (), (), (), (), (), (), (), (), (), (), (), (), (), (), (), (), (), (), (), (), (), (), (), (), (), (), (), (), (), (), (), (), (), (), (), (), (), (), (), (), (), (), (), (), (), (), (), (), (), (), (), (), (), (), (), (), (), (), (), (), (), (), (), (), (), (), (), (), (), (), (), (), (), (), (), (), (), (), (), (), (), (), (), (), (), (), (), (), (), ()), (v4, ()))) a.1.1 a.1.2.2.2.2.2.1 a.1.2.2.2.2.2.2.2.2.1 a.1.2.2.2.2.2.2.2.2.2.1 a.2.1
noncomputable def affidavitlaw02_PrimeBuilds.Q2 {R : Type} (k : Nat) (K : Ex → St → Option R) (m : Nat) (a : affidavitlaw02_PrimeBuilds.s2.den) : Option R := affidavitlaw02_PrimeBuilds.L2 k (fun y0 y1 y2 y3 => K (.exit 2) (affidavitlaw02_PrimeBuilds.e2_0.enc ((y0, (), (), (), (), y1, (), (), y2, (), (), (), (), (), (), (), (), (), (), (), (), (), (), (), (), (), (), (), (), (), (), (), (), (), (), (), (), (), (), (), (), (), (), (), (), (), (), (), (), (), (), (), (), (), (), (), (), (), (), (), (), (), (), (), (), (), (), (), (), (), (), (), (), (), (), (), (), (), (), (), (), (), (), (), (), (), (), (), (), (), (), (), (), (), (), (), (), (), (), (), (), (), (), (), (), (), (), (), (), (), (), (), (), (), (), (), (), (), (), (), (), (), (), (), (), (), (), (), (), (), (), (), (), (), (), (), (), (), (), (), (), (), (), (), (), (), (), (), (), (), (), (), (), ()), (y3, ())))) m a.1.1 a.1.2.2.2.2.2.1 a.1.2.2.2.2.2.2.2.2.1 a.1.2.2.2.2.2.2.2.2.2.1 a.2.1
noncomputable def affidavitlaw02_PrimeBuilds.H2 {R : Type} (k : Nat) (st : St) (K : Ex → St → Option R) : Option R := hookL (fun st K => aCode Cx 5 (callT k affidavitlaw02_PrimeBuilds.T) k (lc Try.f5 2) 2 st K) (Cx.hint 5 2) k affidavitlaw02_PrimeBuilds.s2.dec (affidavitlaw02_PrimeBuilds.Q2 k) st K
theorem affidavitlaw02_PrimeBuilds.h2 {R : Type} (k : Nat) (st : St) (K : Ex → St → Option R) : affidavitlaw02_PrimeBuilds.H2 k st K = aCode Cx 5 (callT k affidavitlaw02_PrimeBuilds.T) k (.loop (lc Try.f5 2)) 2 st K :=
  hookL_eq Sh.dec_ok (Φ := affidavitlaw02_PrimeBuilds.P2 k) (fun K a => rfl) (fun K m a => rfl) (fun K m a => loop_step (hookOf [(4, affidavitlaw02_PrimeBuilds.H4 k)]) (allL (l' := [(4, lc Try.f5 4)]) (by kernel_rfl) ⟨affidavitlaw02_PrimeBuilds.h4 k, trivial⟩) K m _ (by kernel_rfl)) st K
abbrev affidavitlaw02_PrimeBuilds.s0 : Sh := ⟨[.one (.int .u64), u, u, .one (.ref 0), u, .one (.int .i64), u, u, u, u, u, u, u, u, u, u, u, u, u, u, u, u, u, u, u, u, u, u, u, u, u, u, u, u, u, u, u, u, u, u, u, u, u, u, u, u, u, u, u, u, u, u, u, u, u, u, u, u, u, u, u, u, u, u, u, u, u, u, u, u, u, u, u, u, u, u, u, u, u, u, u, u, u, u, u, u, u, u, u, u, u, u, u, u, u, u, u, u, u, u, u, u, u, u, u, u, u, u, u, u, u, u, u, u, u, u, u, u, u, u, u, u, u, u, u, u, u, u, u, u, u, u, u, u, u, u, u, u, u, u, u, u, u, u, u, u, u, u, u, u, u, u, u], [.row true 42 tProof], []⟩
abbrev affidavitlaw02_PrimeBuilds.e0_0 : Sh := ⟨[u, u, .one (.bool), u, u, u, u, u, u, u, u, u, u, u, u, u, u, u, u, u, u, u, u, u, u, u, u, u, u, u, u, u, u, u, u, u, u, u, u, u, u, u, u, u, u, u, u, u, u, u, u, u, u, u, u, u, u, u, u, u, u, u, u, u, u, u, u, u, u, u, u, u, u, u, u, u, u, u, u, u, u, u, u, u, u, u, u, u, u, u, u, u, u, u, u, u, u, u, u, u, u, u, u, u, u, u, u, u, u, u, u, u, u, u, u, u, u, u, u, u, u, u, u, u, u, u, u, u, u, u, u, u, u, u, u, u, u, u, u, u, u, u, u, u, u, u, u, u, u, u, u, u, u], [], []⟩
abbrev affidavitlaw02_PrimeBuilds.e0_1 : Sh := ⟨[.one (.int .u64), u, u, .one (.ref 0), u, u, u, u, u, u, u, u, u, u, u, u, u, u, u, u, u, u, u, u, u, u, u, u, u, u, u, u, u, u, u, u, u, u, u, u, u, u, u, u, u, u, u, u, u, u, u, u, u, u, u, u, u, u, u, u, u, u, u, u, u, u, u, u, u, u, u, u, u, u, u, u, u, u, u, u, u, u, u, u, u, u, u, u, u, u, u, u, u, u, u, u, u, u, u, u, u, u, u, u, u, u, u, u, u, u, u, u, u, u, u, u, u, u, u, u, u, u, u, u, u, u, u, u, u, u, u, u, u, u, u, u, u, u, u, u, u, u, u, u, u, u, u, u, u, u, u, u, u], [.row true 42 tProof], []⟩
noncomputable def affidavitlaw02_PrimeBuilds.P0 {R : Type} (k : Nat) (K : Ex → St → Option R) (rec_ : affidavitlaw02_PrimeBuilds.s0.den → Option R) (a : affidavitlaw02_PrimeBuilds.s0.den) : Option R := affidavitlaw02_PrimeBuilds.B0 k (fun y0 => K .ret (affidavitlaw02_PrimeBuilds.e0_0.enc (((), (), y0, (), (), (), (), (), (), (), (), (), (), (), (), (), (), (), (), (), (), (), (), (), (), (), (), (), (), (), (), (), (), (), (), (), (), (), (), (), (), (), (), (), (), (), (), (), (), (), (), (), (), (), (), (), (), (), (), (), (), (), (), (), (), (), (), (), (), (), (), (), (), (), (), (), (), (), (), (), (), (), (), (), (), (), (), (), (), (), (), (), (), (), (), (), (), (), (), (), (), (), (), (), (), (), (), (), (), (), (), (), (), (), (), (), (), (), (), (), (), (), (), (), (), (), (), (), (), (), (), (), (), (), (), (), (), (), (), (), (), (), (), (), (), (), (), (), (), (), (), (), (), ()), ()))) (fun y0 y1 => K (.exit 0) (affidavitlaw02_PrimeBuilds.e0_1.enc ((y0, (), (), (), (), (), (), (), (), (), (), (), (), (), (), (), (), (), (), (), (), (), (), (), (), (), (), (), (), (), (), (), (), (), (), (), (), (), (), (), (), (), (), (), (), (), (), (), (), (), (), (), (), (), (), (), (), (), (), (), (), (), (), (), (), (), (), (), (), (), (), (), (), (), (), (), (), (), (), (), (), (), (), (), (), (), (), (), (), (), (), (), (), (), (), (), (), (), (), (), (), (), (), (), (), (), (), (), (), (), (), (), (), (), (), (), (), (), (), (), (), (), (), (), (), (), (), (), (), (), (), (), (), (), (), (), (), (), (), (), (), (), (), (), (), (), (), (), (), (), (), (), (), ()), (y1, ())))) (fun v0 v1 v2 => rec_ ((v0, (), (), (), (), v1, (), (), (), (), (), (), (), (), (), (), (), (), (), (), (), (), (), (), (), (), (), (), (), (), (), (), (), (), (), (), (), (), (), (), (), (), (), (), (), (), (), (), (), (), (), (), (), (), (), (), (), (), (), (), (), (), (), (), (), (), (), (), (), (), (), (), (), (), (), (), (), (), (), (), (), (), (), (), (), (), (), (), (), (), (), (), (), (), (), (), (), (), (), (), (), (), (), (), (), (), (), (), (), (), (), (), (), (), (), (), (), (), (), (), (), (), (), (), (), (), (), (), (), (), (), (), (), (), (), (), (), (), (), (), (), (), (), (), (), (), (), (), (), (), (), (), (), ()), (v2, ()))) a.1.1 a.1.2.2.2.2.2.1 a.2.1
noncomputable def affidavitlaw02_PrimeBuilds.Q0 {R : Type} (k : Nat) (K : Ex → St → Option R) (m : Nat) (a : affidavitlaw02_PrimeBuilds.s0.den) : Option R := affidavitlaw02_PrimeBuilds.L0 k (fun y0 => K .ret (affidavitlaw02_PrimeBuilds.e0_0.enc (((), (), y0, (), (), (), (), (), (), (), (), (), (), (), (), (), (), (), (), (), (), (), (), (), (), (), (), (), (), (), (), (), (), (), (), (), (), (), (), (), (), (), (), (), (), (), (), (), (), (), (), (), (), (), (), (), (), (), (), (), (), (), (), (), (), (), (), (), (), (), (), (), (), (), (), (), (), (), (), (), (), (), (), (), (), (), (), (), (), (), (), (), (), (), (), (), (), (), (), (), (), (), (), (), (), (), (), (), (), (), (), (), (), (), (), (), (), (), (), (), (), (), (), (), (), (), (), (), (), (), (), (), (), (), (), (), (), (), (), (), (), (), (), (), (), (), (), (), (), (), (), (), (), ()), ()))) (fun y0 y1 => K (.exit 0) (affidavitlaw02_PrimeBuilds.e0_1.enc ((y0, (), (), (), (), (), (), (), (), (), (), (), (), (), (), (), (), (), (), (), (), (), (), (), (), (), (), (), (), (), (), (), (), (), (), (), (), (), (), (), (), (), (), (), (), (), (), (), (), (), (), (), (), (), (), (), (), (), (), (), (), (), (), (), (), (), (), (), (), (), (), (), (), (), (), (), (), (), (), (), (), (), (), (), (), (), (), (), (), (), (), (), (), (), (), (), (), (), (), (), (), (), (), (), (), (), (), (), (), (), (), (), (), (), (), (), (), (), (), (), (), (), (), (), (), (), (), (), (), (), (), (), (), (), (), (), (), (), (), (), (), (), (), (), (), (), (), (), (), (), (), (), (), ()), (y1, ())))) m a.1.1 a.1.2.2.2.2.2.1 a.2.1
noncomputable def affidavitlaw02_PrimeBuilds.H0 {R : Type} (k : Nat) (st : St) (K : Ex → St → Option R) : Option R := hookL (fun st K => aCode Cx 5 (callT k affidavitlaw02_PrimeBuilds.T) k (lc Try.f5 0) 0 st K) (Cx.hint 5 0) k affidavitlaw02_PrimeBuilds.s0.dec (affidavitlaw02_PrimeBuilds.Q0 k) st K
theorem affidavitlaw02_PrimeBuilds.h0 {R : Type} (k : Nat) (st : St) (K : Ex → St → Option R) : affidavitlaw02_PrimeBuilds.H0 k st K = aCode Cx 5 (callT k affidavitlaw02_PrimeBuilds.T) k (.loop (lc Try.f5 0)) 0 st K :=
  hookL_eq Sh.dec_ok (Φ := affidavitlaw02_PrimeBuilds.P0 k) (fun K a => rfl) (fun K m a => rfl) (fun K m a => loop_step (hookOf [(2, affidavitlaw02_PrimeBuilds.H2 k)]) (allL (l' := [(2, lc Try.f5 2)]) (by kernel_rfl) ⟨affidavitlaw02_PrimeBuilds.h2 k, trivial⟩) K m _ (by kernel_rfl)) st K
abbrev affidavitlaw02_PrimeBuilds.as : List AS := [.ty (.int .u64)]
abbrev affidavitlaw02_PrimeBuilds.hs : List SS := []
abbrev affidavitlaw02_PrimeBuilds.rts : List CV := []
abbrev affidavitlaw02_PrimeBuilds.rs : VS := .one (.bool)
noncomputable def affidavitlaw02_PrimeBuilds.g : Nat → {R : Type} → HA affidavitlaw02_PrimeBuilds.as × HS affidavitlaw02_PrimeBuilds.hs → (affidavitlaw02_PrimeBuilds.rs.den → Option R) → Option R := fun k {R} a ret => affidavitlaw02_PrimeBuilds.f k a.1.1 (fun y0 => ret y0)
noncomputable def affidavitlaw02_PrimeBuilds.E : Entry Try.prog Cx pr where
  id := 5
  args := affidavitlaw02_PrimeBuilds.as
  heap := affidavitlaw02_PrimeBuilds.hs
  roots := affidavitlaw02_PrimeBuilds.rts
  res := affidavitlaw02_PrimeBuilds.rs
  f := affidavitlaw02_PrimeBuilds.g
  ok := entry_ok (args := affidavitlaw02_PrimeBuilds.as) (heap := affidavitlaw02_PrimeBuilds.hs) (roots := affidavitlaw02_PrimeBuilds.rts) (res := affidavitlaw02_PrimeBuilds.rs) (f := affidavitlaw02_PrimeBuilds.g) rfl Try.func5 affidavitlaw02_PrimeBuilds.T rfl (fun a K => rfl) (fun k {R} a K => fun_step (c := (Try.f5.body).getD .skip) (by kernel_rfl) (hookOf [(0, affidavitlaw02_PrimeBuilds.H0 k)]) (allL (l' := [(0, lc Try.f5 0)]) (by kernel_rfl) ⟨affidavitlaw02_PrimeBuilds.h0 k, trivial⟩) _ K (by kernel_rfl))

/-! ### affidavit/affidavitlaw02.PrimeCut: function 6 -/
noncomputable def affidavitlaw02_PrimeCut.B0 {R : Type} (k : Nat) (x0_ : Bool → Option R) (x1_ : List (Int × Int × List (Int × Int)) → Int → Option R) (rec_ : List (Int × Int × List (Int × Int)) → Int → Int → Option R) (l1 : List (Int × Int × List (Int × Int))) (at_1 : Int) (i : Int) : Option R :=
  bif (decide (i ≤ (l1.length : Int))) then
    (bif (decide (0 ≤ i) && decide (i ≤ (l1.length : Int))) then (prime_Check.f k (l1.take i.toNat) (fun b3 =>
      bif (!b3) then
        (x0_ false)
      else
        (bif (decide (0 ≤ i) && decide (i ≤ (l1.length : Int))) then (prime_First.f k (l1.take i.toNat) (fun n2 =>
          bif (n2 != i) then
            (x0_ false)
          else
            (rec_ l1 at_1 (IntKind.wrap .i64 (i + 1))))) else none))) else none)
  else
    (x1_ l1 at_1)
noncomputable def affidavitlaw02_PrimeCut.L0 {R : Type} (k : Nat) (x0_ : Bool → Option R) (x1_ : List (Int × Int × List (Int × Int)) → Int → Option R) : Nat → List (Int × Int × List (Int × Int)) → Int → Int → Option R
  | 0, _, _, _ => none
  | m + 1, l1, at_1, i => affidavitlaw02_PrimeCut.B0 k x0_ x1_ (affidavitlaw02_PrimeCut.L0 k x0_ x1_ m) l1 at_1 i
noncomputable def affidavitlaw02_PrimeCut.B4 {R : Type} (k : Nat) (x0_ : List (Int × Int × List (Int × Int)) → Int → Int → Int → List (Int × Int × List (Int × Int)) → Option R) (rec_ : List (Int × Int × List (Int × Int)) → Int → Int → Int → Int → List (Int × Int × List (Int × Int)) → Option R) (l4 : List (Int × Int × List (Int × Int))) (k_1 : Int) (needed1 : Int) (i2 : Int) (n3 : Int) (less1 : List (Int × Int × List (Int × Int))) : Option R :=
  bif (decide (0 ≤ i2) && decide (i2 < (l4.length : Int))) then (bif (decide (n3 < ((((l4.getD i2.toNat (0, 0, [])).2).2).length : Int))) then
    (bif (decide (0 ≤ i2) && decide (i2 < (l4.length : Int))) then (bif (decide (0 ≤ n3) && decide (n3 < ((((l4.getD i2.toNat (0, 0, [])).2).2).length : Int))) then (bif (decide (0 ≤ k_1) && decide (k_1 < (l4.length : Int))) then (bif ((((((l4.getD i2.toNat (0, 0, [])).2).2).getD n3.toNat (0, 0)).1) == (l4.getD k_1.toNat (0, 0, [])).1) then
      (rec_ l4 k_1 (IntKind.wrap .i64 (i2 - 1)) i2 (IntKind.wrap .i64 (n3 + 1)) less1)
    else
      (rec_ l4 k_1 needed1 i2 (IntKind.wrap .i64 (n3 + 1)) less1)) else none) else none) else none)
  else
    (x0_ l4 k_1 needed1 i2 less1)) else none
noncomputable def affidavitlaw02_PrimeCut.L4 {R : Type} (k : Nat) (x0_ : List (Int × Int × List (Int × Int)) → Int → Int → Int → List (Int × Int × List (Int × Int)) → Option R) : Nat → List (Int × Int × List (Int × Int)) → Int → Int → Int → Int → List (Int × Int × List (Int × Int)) → Option R
  | 0, _, _, _, _, _, _ => none
  | m + 1, l4, k_1, needed1, i2, n3, less1 => affidavitlaw02_PrimeCut.B4 k x0_ (affidavitlaw02_PrimeCut.L4 k x0_ m) l4 k_1 needed1 i2 n3 less1
noncomputable def affidavitlaw02_PrimeCut.B2 {R : Type} (k : Nat) (x0_ : List (Int × Int × List (Int × Int)) → Int → Int → List (Int × Int × List (Int × Int)) → Option R) (rec_ : List (Int × Int × List (Int × Int)) → Int → Int → Int → List (Int × Int × List (Int × Int)) → Option R) (l3 : List (Int × Int × List (Int × Int))) (k_ : Int) (needed : Int) (i1 : Int) (less : List (Int × Int × List (Int × Int))) : Option R :=
  bif (decide (i1 > k_)) then
    (affidavitlaw02_PrimeCut.L4 k (fun l5 k_2 needed2 i3 less2 =>
      rec_ l5 k_2 needed2 (IntKind.wrap .i64 (i3 - 1)) less2) k l3 k_ needed i1 0 less)
  else
    (x0_ l3 k_ needed less)
noncomputable def affidavitlaw02_PrimeCut.L2 {R : Type} (k : Nat) (x0_ : List (Int × Int × List (Int × Int)) → Int → Int → List (Int × Int × List (Int × Int)) → Option R) : Nat → List (Int × Int × List (Int × Int)) → Int → Int → Int → List (Int × Int × List (Int × Int)) → Option R
  | 0, _, _, _, _, _ => none
  | m + 1, l3, k_, needed, i1, less => affidavitlaw02_PrimeCut.B2 k x0_ (affidavitlaw02_PrimeCut.L2 k x0_ m) l3 k_ needed i1 less
noncomputable def affidavitlaw02_PrimeCut.f {R : Type} : Nat → (List (Int × Int × List (Int × Int))) → Int → (Bool → Option R) → Option R
  | 0, _, _, _ => none
  | k + 1, l, at_, ret =>
    affidavitlaw02_awake.f k (fun b =>
      bif (!b) then
        (ret false)
      else
        (affidavitref02_Short.f k l (fun b1 =>
          bif (!b1) then
            (prime_First.f k l (fun n =>
              ret (decide (n ≤ (l.length : Int)))))
          else
            (prime_Check.f k l (fun b2 =>
              bif (!b2) then
                (prime_First.f k l (fun n1 =>
                  ret (decide (n1 ≤ (l.length : Int)))))
              else
                (affidavitlaw02_PrimeCut.L0 k (fun t4 =>
                  ret t4) (fun l2 at_2 =>
                  bif ((l2.length : Int) == 0) then
                    (ret true)
                  else
                    (bif ((l2.length : Int) != 0) then (bif (decide (0 ≤ (Int.tmod (IntKind.wrap .i64 at_2) (l2.length : Int))) && decide ((Int.tmod (IntKind.wrap .i64 at_2) (l2.length : Int)) ≤ (l2.length : Int))) then (bif (decide (0 ≤ (IntKind.wrap .i64 ((Int.tmod (IntKind.wrap .i64 at_2) (l2.length : Int)) + 1))) && decide ((IntKind.wrap .i64 ((Int.tmod (IntKind.wrap .i64 at_2) (l2.length : Int)) + 1)) ≤ (l2.length : Int))) then (bif (decide (([] ++ (l2.take (Int.tmod (IntKind.wrap .i64 at_2) (l2.length : Int)).toNat)).length < 1099511627776)) then (bif (decide ((([] ++ (l2.take (Int.tmod (IntKind.wrap .i64 at_2) (l2.length : Int)).toNat)) ++ (l2.drop (IntKind.wrap .i64 ((Int.tmod (IntKind.wrap .i64 at_2) (l2.length : Int)) + 1)).toNat)).length < 1099511627776)) then (affidavitlaw02_PrimeCut.L2 k (fun l6 k_3 needed3 less3 =>
                      prime_First.f k less3 (fun n4 =>
                        bif (n4 == needed3) then
                          (bif (decide (0 ≤ k_3) && decide (k_3 < (l6.length : Int))) then (prime_Shows.f k less3 ((l6.getD k_3.toNat (0, 0, [])).1) (fun b4 =>
                            ret (!b4))) else none)
                        else
                          (ret false))) k l2 (Int.tmod (IntKind.wrap .i64 at_2) (l2.length : Int)) ((([] ++ (l2.take (Int.tmod (IntKind.wrap .i64 at_2) (l2.length : Int)).toNat)) ++ (l2.drop (IntKind.wrap .i64 ((Int.tmod (IntKind.wrap .i64 at_2) (l2.length : Int)) + 1)).toNat)).length : Int) (IntKind.wrap .i64 ((l2.length : Int) - 1)) (([] ++ (l2.take (Int.tmod (IntKind.wrap .i64 at_2) (l2.length : Int)).toNat)) ++ (l2.drop (IntKind.wrap .i64 ((Int.tmod (IntKind.wrap .i64 at_2) (l2.length : Int)) + 1)).toNat))) else none) else none) else none) else none) else none)) k l at_ 0))))))
noncomputable def affidavitlaw02_PrimeCut.T : List (Entry Try.prog Cx pr) := [affidavitlaw02_awake.E, affidavitref02_Short.E, prime_First.E, prime_Check.E, prime_Shows.E]
abbrev affidavitlaw02_PrimeCut.s0 : Sh := ⟨[.one (.vsl tProof), .one (.int .u8), u, u, u, .one (.int .i64), u, u, u, u, u, u, u, u, u, u, u, u, u, u, u, u, u, u, u, u, u, u, u, u, u, u, u, u, u, u, u, u, u, u, u, u, u, u, u, u, u, u, u, u, u, u, u, u, u, u, u, u, u, u, u, u, u, u, u, u, u, u, u, u, u, u, u, u, u, u, u, u, u, u, u, u, u, u, u, u, u, u, u, u, u, u, u, u, u, u, u, u, u, u, u, u, u, u, u, u, u, u, u, u, u, u, u, u], [], []⟩
abbrev affidavitlaw02_PrimeCut.e0_0 : Sh := ⟨[u, u, u, u, .one (.bool), u, u, u, u, u, u, u, u, u, u, u, u, u, u, u, u, u, u, u, u, u, u, u, u, u, u, u, u, u, u, u, u, u, u, u, u, u, u, u, u, u, u, u, u, u, u, u, u, u, u, u, u, u, u, u, u, u, u, u, u, u, u, u, u, u, u, u, u, u, u, u, u, u, u, u, u, u, u, u, u, u, u, u, u, u, u, u, u, u, u, u, u, u, u, u, u, u, u, u, u, u, u, u, u, u, u, u, u, u], [], []⟩
abbrev affidavitlaw02_PrimeCut.e0_1 : Sh := ⟨[.one (.vsl tProof), .one (.int .u8), u, u, u, u, u, u, u, u, u, u, u, u, u, u, u, u, u, u, u, u, u, u, u, u, u, u, u, u, u, u, u, u, u, u, u, u, u, u, u, u, u, u, u, u, u, u, u, u, u, u, u, u, u, u, u, u, u, u, u, u, u, u, u, u, u, u, u, u, u, u, u, u, u, u, u, u, u, u, u, u, u, u, u, u, u, u, u, u, u, u, u, u, u, u, u, u, u, u, u, u, u, u, u, u, u, u, u, u, u, u, u, u], [], []⟩
noncomputable def affidavitlaw02_PrimeCut.P0 {R : Type} (k : Nat) (K : Ex → St → Option R) (rec_ : affidavitlaw02_PrimeCut.s0.den → Option R) (a : affidavitlaw02_PrimeCut.s0.den) : Option R := affidavitlaw02_PrimeCut.B0 k (fun y0 => K .ret (affidavitlaw02_PrimeCut.e0_0.enc (((), (), (), (), y0, (), (), (), (), (), (), (), (), (), (), (), (), (), (), (), (), (), (), (), (), (), (), (), (), (), (), (), (), (), (), (), (), (), (), (), (), (), (), (), (), (), (), (), (), (), (), (), (), (), (), (), (), (), (), (), (), (), (), (), (), (), (), (), (), (), (), (), (), (), (), (), (), (), (), (), (), (), (), (), (), (), (), (), (), (), (), (), (), (), (), (), (), (), (), (), (), (), (), (), (), (), (), (), (), (), (), (), (), (), ()), ()))) (fun y0 y1 => K (.exit 0) (affidavitlaw02_PrimeCut.e0_1.enc ((y0, y1, (), (), (), (), (), (), (), (), (), (), (), (), (), (), (), (), (), (), (), (), (), (), (), (), (), (), (), (), (), (), (), (), (), (), (), (), (), (), (), (), (), (), (), (), (), (), (), (), (), (), (), (), (), (), (), (), (), (), (), (), (), (), (), (), (), (), (), (), (), (), (), (), (), (), (), (), (), (), (), (), (), (), (), (), (), (), (), (), (), (), (), (), (), (), (), (), (), (), (), (), (), (), (), (), (), (), (), (), (), (), (), (), ()), ()))) (fun v0 v1 v2 => rec_ ((v0, v1, (), (), (), v2, (), (), (), (), (), (), (), (), (), (), (), (), (), (), (), (), (), (), (), (), (), (), (), (), (), (), (), (), (), (), (), (), (), (), (), (), (), (), (), (), (), (), (), (), (), (), (), (), (), (), (), (), (), (), (), (), (), (), (), (), (), (), (), (), (), (), (), (), (), (), (), (), (), (), (), (), (), (), (), (), (), (), (), (), (), (), (), (), (), (), (), (), (), (), (), (), (), (), (), (), (), (), (), (), (), (), (), (), ()), ())) a.1.1 a.1.2.1 a.1.2.2.2.2.2.1
noncomputable def affidavitlaw02_PrimeCut.Q0 {R : Type} (k : Nat) (K : Ex → St → Option R) (m : Nat) (a : affidavitlaw02_PrimeCut.s0.den) : Option R := affidavitlaw02_PrimeCut.L0 k (fun y0 => K .ret (affidavitlaw02_PrimeCut.e0_0.enc (((), (), (), (), y0, (), (), (), (), (), (), (), (), (), (), (), (), (), (), (), (), (), (), (), (), (), (), (), (), (), (), (), (), (), (), (), (), (), (), (), (), (), (), (), (), (), (), (), (), (), (), (), (), (), (), (), (), (), (), (), (), (), (), (), (), (), (), (), (), (), (), (), (), (), (), (), (), (), (), (), (), (), (), (), (), (), (), (), (), (), (), (), (), (), (), (), (), (), (), (), (), (), (), (), (), (), (), (), (), (), (), (), (), (), ()), ()))) (fun y0 y1 => K (.exit 0) (affidavitlaw02_PrimeCut.e0_1.enc ((y0, y1, (), (), (), (), (), (), (), (), (), (), (), (), (), (), (), (), (), (), (), (), (), (), (), (), (), (), (), (), (), (), (), (), (), (), (), (), (), (), (), (), (), (), (), (), (), (), (), (), (), (), (), (), (), (), (), (), (), (), (), (), (), (), (), (), (), (), (), (), (), (), (), (), (), (), (), (), (), (), (), (), (), (), (), (), (), (), (), (), (), (), (), (), (), (), (), (), (), (), (), (), (), (), (), (), (), (), (), (), (), (), (), (), ()), ()))) m a.1.1 a.1.2.1 a.1.2.2.2.2.2.1
noncomputable def affidavitlaw02_PrimeCut.H0 {R : Type} (k : Nat) (st : St) (K : Ex → St → Option R) : Option R := hookL (fun st K => aCode Cx 6 (callT k affidavitlaw02_PrimeCut.T) k (lc Try.f6 0) 0 st K) (Cx.hint 6 0) k affidavitlaw02_PrimeCut.s0.dec (affidavitlaw02_PrimeCut.Q0 k) st K
theorem affidavitlaw02_PrimeCut.h0 {R : Type} (k : Nat) (st : St) (K : Ex → St → Option R) : affidavitlaw02_PrimeCut.H0 k st K = aCode Cx 6 (callT k affidavitlaw02_PrimeCut.T) k (.loop (lc Try.f6 0)) 0 st K :=
  hookL_eq Sh.dec_ok (Φ := affidavitlaw02_PrimeCut.P0 k) (fun K a => rfl) (fun K m a => rfl) (fun K m a => loop_step (hookOf []) (allL (l' := []) (by kernel_rfl) trivial) K m _ (by kernel_rfl)) st K
abbrev affidavitlaw02_PrimeCut.s4 : Sh := ⟨[.one (.vsl tProof), u, u, u, u, u, .one (.int .i64), .one (.ref 0), .one (.int .i64), .one (.int .i64), .one (.int .i64), u, u, u, u, u, u, u, u, u, u, u, u, u, u, u, u, u, u, u, u, u, u, u, u, u, u, u, u, u, u, u, u, u, u, u, u, u, u, u, u, u, u, u, u, u, u, u, u, u, u, u, u, u, u, u, u, u, u, u, u, u, u, u, u, u, u, u, u, u, u, u, u, u, u, u, u, u, u, u, u, u, u, u, u, u, u, u, u, u, u, u, u, u, u, u, u, u, u, u, u, u, u, u], [.row true 42 tProof], []⟩
abbrev affidavitlaw02_PrimeCut.e4_0 : Sh := ⟨[.one (.vsl tProof), u, u, u, u, u, .one (.int .i64), .one (.ref 0), .one (.int .i64), .one (.int .i64), u, u, u, u, u, u, u, u, u, u, u, u, u, u, u, u, u, u, u, u, u, u, u, u, u, u, u, u, u, u, u, u, u, u, u, u, u, u, u, u, u, u, u, u, u, u, u, u, u, u, u, u, u, u, u, u, u, u, u, u, u, u, u, u, u, u, u, u, u, u, u, u, u, u, u, u, u, u, u, u, u, u, u, u, u, u, u, u, u, u, u, u, u, u, u, u, u, u, u, u, u, u, u, u], [.row true 42 tProof], []⟩
noncomputable def affidavitlaw02_PrimeCut.P4 {R : Type} (k : Nat) (K : Ex → St → Option R) (rec_ : affidavitlaw02_PrimeCut.s4.den → Option R) (a : affidavitlaw02_PrimeCut.s4.den) : Option R := affidavitlaw02_PrimeCut.B4 k (fun y0 y1 y2 y3 y4 => K (.exit 4) (affidavitlaw02_PrimeCut.e4_0.enc ((y0, (), (), (), (), (), y1, (), y2, y3, (), (), (), (), (), (), (), (), (), (), (), (), (), (), (), (), (), (), (), (), (), (), (), (), (), (), (), (), (), (), (), (), (), (), (), (), (), (), (), (), (), (), (), (), (), (), (), (), (), (), (), (), (), (), (), (), (), (), (), (), (), (), (), (), (), (), (), (), (), (), (), (), (), (), (), (), (), (), (), (), (), (), (), (), (), (), (), (), (), (), (), (), (), (), (), (), (), (), (), (), (), (), (), (), ()), (y4, ())))) (fun v0 v1 v2 v3 v4 v5 => rec_ ((v0, (), (), (), (), (), v1, (), v2, v3, v4, (), (), (), (), (), (), (), (), (), (), (), (), (), (), (), (), (), (), (), (), (), (), (), (), (), (), (), (), (), (), (), (), (), (), (), (), (), (), (), (), (), (), (), (), (), (), (), (), (), (), (), (), (), (), (), (), (), (), (), (), (), (), (), (), (), (), (), (), (), (), (), (), (), (), (), (), (), (), (), (), (), (), (), (), (), (), (), (), (), (), (), (), (), (), (), (), (), (), (), (), (), (), (), ()), (v5, ()))) a.1.1 a.1.2.2.2.2.2.2.1 a.1.2.2.2.2.2.2.2.2.1 a.1.2.2.2.2.2.2.2.2.2.1 a.1.2.2.2.2.2.2.2.2.2.2.1 a.2.1
noncomputable def affidavitlaw02_PrimeCut.Q4 {R : Type} (k : Nat) (K : Ex → St → Option R) (m : Nat) (a : affidavitlaw02_PrimeCut.s4.den) : Option R := affidavitlaw02_PrimeCut.L4 k (fun y0 y1 y2 y3 y4 => K (.exit 4) (affidavitlaw02_PrimeCut.e4_0.enc ((y0, (), (), (), (), (), y1, (), y2, y3, (), (), (), (), (), (), (), (), (), (), (), (), (), (), (), (), (), (), (), (), (), (), (), (), (), (), (), (), (), (), (), (), (), (), (), (), (), (), (), (), (), (), (), (), (), (), (), (), (), (), (), (), (), (), (), (), (), (), (), (), (), (), (), (), (), (), (), (), (), (), (), (), (), (), (), (), (), (), (), (), (), (), (), (), (), (), (), (), (), (), (), (), (), (), (), (), (), (), (), (), (), (), (), (), ()), (y4, ())))) m a.1.1 a.1.2.2.2.2.2.2.1 a.1.2.2.2.2.2.2.2.2.1 a.1.2.2.2.2.2.2.2.2.2.1 a.1.2.2.2.2.2.2.2.2.2.2.1 a.2.1
noncomputable def affidavitlaw02_PrimeCut.H4 {R : Type} (k : Nat) (st : St) (K : Ex → St → Option R) : Option R := hookL (fun st K => aCode Cx 6 (callT k affidavitlaw02_PrimeCut.T) k (lc Try.f6 4) 4 st K) (Cx.hint 6 4) k affidavitlaw02_PrimeCut.s4.dec (affidavitlaw02_PrimeCut.Q4 k) st K
theorem affidavitlaw02_PrimeCut.h4 {R : Type} (k : Nat) (st : St) (K : Ex → St → Option R) : affidavitlaw02_PrimeCut.H4 k st K = aCode Cx 6 (callT k affidavitlaw02_PrimeCut.T) k (.loop (lc Try.f6 4)) 4 st K :=
  hookL_eq Sh.dec_ok (Φ := affidavitlaw02_PrimeCut.P4 k) (fun K a => rfl) (fun K m a => rfl) (fun K m a => loop_step (hookOf []) (allL (l' := []) (by kernel_rfl) trivial) K m _ (by kernel_rfl)) st K
abbrev affidavitlaw02_PrimeCut.s2 : Sh := ⟨[.one (.vsl tProof), u, u, u, u, u, .one (.int .i64), .one (.ref 0), .one (.int .i64), .one (.int .i64), u, u, u, u, u, u, u, u, u, u, u, u, u, u, u, u, u, u, u, u, u, u, u, u, u, u, u, u, u, u, u, u, u, u, u, u, u, u, u, u, u, u, u, u, u, u, u, u, u, u, u, u, u, u, u, u, u, u, u, u, u, u, u, u, u, u, u, u, u, u, u, u, u, u, u, u, u, u, u, u, u, u, u, u, u, u, u, u, u, u, u, u, u, u, u, u, u, u, u, u, u, u, u, u], [.row true 42 tProof], []⟩
abbrev affidavitlaw02_PrimeCut.e2_0 : Sh := ⟨[.one (.vsl tProof), u, u, u, u, u, .one (.int .i64), .one (.ref 0), .one (.int .i64), u, u, u, u, u, u, u, u, u, u, u, u, u, u, u, u, u, u, u, u, u, u, u, u, u, u, u, u, u, u, u, u, u, u, u, u, u, u, u, u, u, u, u, u, u, u, u, u, u, u, u, u, u, u, u, u, u, u, u, u, u, u, u, u, u, u, u, u, u, u, u, u, u, u, u, u, u, u, u, u, u, u, u, u, u, u, u, u, u, u, u, u, u, u, u, u, u, u, u, u, u, u, u, u, u], [.row true 42 tProof], []⟩
noncomputable def affidavitlaw02_PrimeCut.P2 {R : Type} (k : Nat) (K : Ex → St → Option R) (rec_ : affidavitlaw02_PrimeCut.s2.den → Option R) (a : affidavitlaw02_PrimeCut.s2.den) : Option R := affidavitlaw02_PrimeCut.B2 k (fun y0 y1 y2 y3 => K (.exit 2) (affidavitlaw02_PrimeCut.e2_0.enc ((y0, (), (), (), (), (), y1, (), y2, (), (), (), (), (), (), (), (), (), (), (), (), (), (), (), (), (), (), (), (), (), (), (), (), (), (), (), (), (), (), (), (), (), (), (), (), (), (), (), (), (), (), (), (), (), (), (), (), (), (), (), (), (), (), (), (), (), (), (), (), (), (), (), (), (), (), (), (), (), (), (), (), (), (), (), (), (), (), (), (), (), (), (), (), (), (), (), (), (), (), (), (), (), (), (), (), (), (), (), (), (), (), (), (), (), ()), (y3, ())))) (fun v0 v1 v2 v3 v4 => rec_ ((v0, (), (), (), (), (), v1, (), v2, v3, (), (), (), (), (), (), (), (), (), (), (), (), (), (), (), (), (), (), (), (), (), (), (), (), (), (), (), (), (), (), (), (), (), (), (), (), (), (), (), (), (), (), (), (), (), (), (), (), (), (), (), (), (), (), (), (), (), (), (), (), (), (), (), (), (), (), (), (), (), (), (), (), (), (), (), (), (), (), (), (), (), (), (), (), (), (), (), (), (), (), (), (), (), (), (), (), (), (), (), (), (), (), (), (), ()), (v4, ()))) a.1.1 a.1.2.2.2.2.2.2.1 a.1.2.2.2.2.2.2.2.2.1 a.1.2.2.2.2.2.2.2.2.2.1 a.2.1
noncomputable def affidavitlaw02_PrimeCut.Q2 {R : Type} (k : Nat) (K : Ex → St → Option R) (m : Nat) (a : affidavitlaw02_PrimeCut.s2.den) : Option R := affidavitlaw02_PrimeCut.L2 k (fun y0 y1 y2 y3 => K (.exit 2) (affidavitlaw02_PrimeCut.e2_0.enc ((y0, (), (), (), (), (), y1, (), y2, (), (), (), (), (), (), (), (), (), (), (), (), (), (), (), (), (), (), (), (), (), (), (), (), (), (), (), (), (), (), (), (), (), (), (), (), (), (), (), (), (), (), (), (), (), (), (), (), (), (), (), (), (), (), (), (), (), (), (), (), (), (), (), (), (), (), (), (), (), (), (), (), (), (), (), (), (), (), (), (), (), (), (), (), (), (), (), (), (), (), (), (), (), (), (), (), (), (), (), (), (), (), (), (), (), ()), (y3, ())))) m a.1.1 a.1.2.2.2.2.2.2.1 a.1.2.2.2.2.2.2.2.2.1 a.1.2.2.2.2.2.2.2.2.2.1 a.2.1
noncomputable def affidavitlaw02_PrimeCut.H2 {R : Type} (k : Nat) (st : St) (K : Ex → St → Option R) : Option R := hookL (fun st K => aCode Cx 6 (callT k affidavitlaw02_PrimeCut.T) k (lc Try.f6 2) 2 st K) (Cx.hint 6 2) k affidavitlaw02_PrimeCut.s2.dec (affidavitlaw02_PrimeCut.Q2 k) st K
theorem affidavitlaw02_PrimeCut.h2 {R : Type} (k : Nat) (st : St) (K : Ex → St → Option R) : affidavitlaw02_PrimeCut.H2 k st K = aCode Cx 6 (callT k affidavitlaw02_PrimeCut.T) k (.loop (lc Try.f6 2)) 2 st K :=
  hookL_eq Sh.dec_ok (Φ := affidavitlaw02_PrimeCut.P2 k) (fun K a => rfl) (fun K m a => rfl) (fun K m a => loop_step (hookOf [(4, affidavitlaw02_PrimeCut.H4 k)]) (allL (l' := [(4, lc Try.f6 4)]) (by kernel_rfl) ⟨affidavitlaw02_PrimeCut.h4 k, trivial⟩) K m _ (by kernel_rfl)) st K
abbrev affidavitlaw02_PrimeCut.as : List AS := [.ty (.sl tProof), .ty (.int .u8)]
abbrev affidavitlaw02_PrimeCut.hs : List SS := []
abbrev affidavitlaw02_PrimeCut.rts : List CV := []
abbrev affidavitlaw02_PrimeCut.rs : VS := .one (.bool)
noncomputable def affidavitlaw02_PrimeCut.g : Nat → {R : Type} → HA affidavitlaw02_PrimeCut.as × HS affidavitlaw02_PrimeCut.hs → (affidavitlaw02_PrimeCut.rs.den → Option R) → Option R := fun k {R} a ret => affidavitlaw02_PrimeCut.f k a.1.1 a.1.2.1 (fun y0 => ret y0)
noncomputable def affidavitlaw02_PrimeCut.E : Entry Try.prog Cx pr where
  id := 6
  args := affidavitlaw02_PrimeCut.as
  heap := affidavitlaw02_PrimeCut.hs
  roots := affidavitlaw02_PrimeCut.rts
  res := affidavitlaw02_PrimeCut.rs
  f := affidavitlaw02_PrimeCut.g
  ok := entry_ok (args := affidavitlaw02_PrimeCut.as) (heap := affidavitlaw02_PrimeCut.hs) (roots := affidavitlaw02_PrimeCut.rts) (res := affidavitlaw02_PrimeCut.rs) (f := affidavitlaw02_PrimeCut.g) rfl Try.func6 affidavitlaw02_PrimeCut.T rfl (fun a K => rfl) (fun k {R} a K => fun_step (c := (Try.f6.body).getD .skip) (by kernel_rfl) (hookOf [(0, affidavitlaw02_PrimeCut.H0 k), (2, affidavitlaw02_PrimeCut.H2 k)]) (allL (l' := [(0, lc Try.f6 0), (2, lc Try.f6 2)]) (by kernel_rfl) ⟨affidavitlaw02_PrimeCut.h0 k, affidavitlaw02_PrimeCut.h2 k, trivial⟩) _ K (by kernel_rfl))

/-! ### affidavit/field.two: function 37 -/
noncomputable def field_two.f {R : Type} : Nat → Int → Int → Int → (Int → Int → Option R) → Option R
  | 0, _, _, _, _ => none
  | k + 1, p, a, b, ret =>
    field_Has.f k p ([a, b] : List Int) (fun b1 =>
      bif (!b1) then
        (ret 0 1)
      else
        (field_mul.f k p a b (fun n =>
          ret n 0)))
noncomputable def field_two.T : List (Entry Try.prog Cx pr) := [field_Has.E, field_mul.E]
abbrev field_two.as : List AS := [.ty (.int .u64), .ty (.int .u64), .ty (.int .u64), .fn 38 [] []]
abbrev field_two.hs : List SS := []
abbrev field_two.rts : List CV := []
abbrev field_two.rs : VS := .tup [(false, [.int .u64]), (false, [.int .i64])]
noncomputable def field_two.g : Nat → {R : Type} → HA field_two.as × HS field_two.hs → (field_two.rs.den → Option R) → Option R := fun k {R} a ret => field_two.f k a.1.1 a.1.2.1 a.1.2.2.1 (fun y0 y1 => ret ((y0, ()), (y1, ()), ()))
noncomputable def field_two.E : Entry Try.prog Cx pr where
  id := 37
  args := field_two.as
  heap := field_two.hs
  roots := field_two.rts
  res := field_two.rs
  f := field_two.g
  ok := entry_ok (args := field_two.as) (heap := field_two.hs) (roots := field_two.rts) (res := field_two.rs) (f := field_two.g) rfl Try.func37 field_two.T rfl (fun a K => rfl) (fun k {R} a K => fun_step (c := (Try.f37.body).getD .skip) (by kernel_rfl) (hookOf []) (allL (l' := []) (by kernel_rfl) trivial) _ K (by kernel_rfl))

/-! ### affidavit/field.Mul: function 23 -/
noncomputable def field_Mul.f {R : Type} : Nat → Int → Int → Int → (Int → Int → Option R) → Option R
  | 0, _, _, _, _ => none
  | k + 1, p, a, b, ret =>
    field_two.f k p a b (fun n n1 =>
      ret n n1)
noncomputable def field_Mul.T : List (Entry Try.prog Cx pr) := [field_two.E]
abbrev field_Mul.as : List AS := [.ty (.int .u64), .ty (.int .u64), .ty (.int .u64)]
abbrev field_Mul.hs : List SS := []
abbrev field_Mul.rts : List CV := []
abbrev field_Mul.rs : VS := .tup [(false, [.int .u64]), (false, [.int .i64])]
noncomputable def field_Mul.g : Nat → {R : Type} → HA field_Mul.as × HS field_Mul.hs → (field_Mul.rs.den → Option R) → Option R := fun k {R} a ret => field_Mul.f k a.1.1 a.1.2.1 a.1.2.2.1 (fun y0 y1 => ret ((y0, ()), (y1, ()), ()))
noncomputable def field_Mul.E : Entry Try.prog Cx pr where
  id := 23
  args := field_Mul.as
  heap := field_Mul.hs
  roots := field_Mul.rts
  res := field_Mul.rs
  f := field_Mul.g
  ok := entry_ok (args := field_Mul.as) (heap := field_Mul.hs) (roots := field_Mul.rts) (res := field_Mul.rs) (f := field_Mul.g) rfl Try.func23 field_Mul.T rfl (fun a K => rfl) (fun k {R} a K => fun_step (c := (Try.f23.body).getD .skip) (by kernel_rfl) (hookOf []) (allL (l' := []) (by kernel_rfl) trivial) _ K (by kernel_rfl))

/-! ### affidavit/affidavitlaw02.PrimePowers: function 7 -/
noncomputable def affidavitlaw02_PrimePowers.B0 {R : Type} (k : Nat) (x0_ : Bool → Option R) (x1_ : Int → Option R) (rec_ : Int → Int → Int → List (Int × Int × List (Int × Int)) → List Bool → Option R) (p1 : Int) (x : Int) (i : Int) (l1 : List (Int × Int × List (Int × Int))) (seen : List Bool) : Option R :=
  bif (decide ((IntKind.wrap .u64 (i + 1)) < p1)) then
    (bif (x == 0) then
      (x0_ false)
    else
      (bif (decide (x ≥ p1)) then
        (x0_ false)
      else
        (bif (decide (0 ≤ x) && (decide (x < (seen.length : Int)) && decide (x < 3000))) then (bif (seen.getD x.toNat false) then
          (x0_ false)
        else
          (bif (decide (0 ≤ x) && (decide (x < (seen.length : Int)) && decide (x < 3000))) then (bif (decide (0 ≤ (IntKind.wrap .i64 ((l1.length : Int) - 1))) && decide ((IntKind.wrap .i64 ((l1.length : Int) - 1)) < (l1.length : Int))) then (field_Mul.f k p1 x (((l1.getD ((IntKind.wrap .i64 ((l1.length : Int) - 1)).toNat) (0, 0, [])).2).1) (fun n1 n2 =>
            bif (n2 != 0) then
              (x0_ false)
            else
              (rec_ p1 n1 (IntKind.wrap .u64 (i + 1)) l1 (seen.set x.toNat true)))) else none) else none)) else none)))
  else
    (x1_ x)
noncomputable def affidavitlaw02_PrimePowers.L0 {R : Type} (k : Nat) (x0_ : Bool → Option R) (x1_ : Int → Option R) : Nat → Int → Int → Int → List (Int × Int × List (Int × Int)) → List Bool → Option R
  | 0, _, _, _, _, _ => none
  | m + 1, p1, x, i, l1, seen => affidavitlaw02_PrimePowers.B0 k x0_ x1_ (affidavitlaw02_PrimePowers.L0 k x0_ x1_ m) p1 x i l1 seen
noncomputable def affidavitlaw02_PrimePowers.f {R : Type} : Nat → Int → (Bool → Option R) → Option R
  | 0, _, _ => none
  | k + 1, p, ret =>
    affidavitlaw02_awake.f k (fun b =>
      bif (!b) then
        (ret false)
      else
        (bif ((3000 : Int) != 0) then (prime_Build.f k (Int.tmod p 3000) (fun l n =>
          bif (n != 0) then
            (ret true)
          else
            (bif ((Int.tmod p 3000) == 2) then
              (ret true)
            else
              (bif ((l.length : Int) == 0) then
                (ret true)
              else
                (affidavitlaw02_PrimePowers.L0 k (fun t2 =>
                  ret t2) (fun x1 =>
                  ret (x1 == 1)) k (Int.tmod p 3000) 1 0 l (List.replicate 3000 false)))))) else none))
noncomputable def affidavitlaw02_PrimePowers.T : List (Entry Try.prog Cx pr) := [affidavitlaw02_awake.E, prime_Build.E, field_Mul.E]
abbrev affidavitlaw02_PrimePowers.s0 : Sh := ⟨[.one (.int .u64), u, u, .one (.ref 0), u, .one (.ptr0 1 0), .one (.int .u64), .one (.int .u64), u, u, u, u, u, u, u, u, u, u, u, u, u, u, u, u, u, u, u, u, u, u, u, u, u, u, u, u, u, u, u, u, u, u, u, u, u, u, u, u, u, u, u, u, u, u, u, u, u, u, u, u, u, u, u, u, u, u, u, u], [.row true 42 tProof, .row true 45 .bool], []⟩
abbrev affidavitlaw02_PrimePowers.e0_0 : Sh := ⟨[u, u, .one (.bool), u, u, u, u, u, u, u, u, u, u, u, u, u, u, u, u, u, u, u, u, u, u, u, u, u, u, u, u, u, u, u, u, u, u, u, u, u, u, u, u, u, u, u, u, u, u, u, u, u, u, u, u, u, u, u, u, u, u, u, u, u, u, u, u, u], [], []⟩
abbrev affidavitlaw02_PrimePowers.e0_1 : Sh := ⟨[u, u, u, u, u, u, .one (.int .u64), u, u, u, u, u, u, u, u, u, u, u, u, u, u, u, u, u, u, u, u, u, u, u, u, u, u, u, u, u, u, u, u, u, u, u, u, u, u, u, u, u, u, u, u, u, u, u, u, u, u, u, u, u, u, u, u, u, u, u, u, u], [], []⟩
noncomputable def affidavitlaw02_PrimePowers.P0 {R : Type} (k : Nat) (K : Ex → St → Option R) (rec_ : affidavitlaw02_PrimePowers.s0.den → Option R) (a : affidavitlaw02_PrimePowers.s0.den) : Option R := affidavitlaw02_PrimePowers.B0 k (fun y0 => K .ret (affidavitlaw02_PrimePowers.e0_0.enc (((), (), y0, (), (), (), (), (), (), (), (), (), (), (), (), (), (), (), (), (), (), (), (), (), (), (), (), (), (), (), (), (), (), (), (), (), (), (), (), (), (), (), (), (), (), (), (), (), (), (), (), (), (), (), (), (), (), (), (), (), (), (), (), (), (), (), (), (), ()), ()))) (fun y0 => K (.exit 0) (affidavitlaw02_PrimePowers.e0_1.enc (((), (), (), (), (), (), y0, (), (), (), (), (), (), (), (), (), (), (), (), (), (), (), (), (), (), (), (), (), (), (), (), (), (), (), (), (), (), (), (), (), (), (), (), (), (), (), (), (), (), (), (), (), (), (), (), (), (), (), (), (), (), (), (), (), (), (), (), (), ()), ()))) (fun v0 v1 v2 v3 v4 => rec_ ((v0, (), (), (), (), (), v1, v2, (), (), (), (), (), (), (), (), (), (), (), (), (), (), (), (), (), (), (), (), (), (), (), (), (), (), (), (), (), (), (), (), (), (), (), (), (), (), (), (), (), (), (), (), (), (), (), (), (), (), (), (), (), (), (), (), (), (), (), (), ()), (v3, v4, ()))) a.1.1 a.1.2.2.2.2.2.2.1 a.1.2.2.2.2.2.2.2.1 a.2.1 a.2.2.1
noncomputable def affidavitlaw02_PrimePowers.Q0 {R : Type} (k : Nat) (K : Ex → St → Option R) (m : Nat) (a : affidavitlaw02_PrimePowers.s0.den) : Option R := affidavitlaw02_PrimePowers.L0 k (fun y0 => K .ret (affidavitlaw02_PrimePowers.e0_0.enc (((), (), y0, (), (), (), (), (), (), (), (), (), (), (), (), (), (), (), (), (), (), (), (), (), (), (), (), (), (), (), (), (), (), (), (), (), (), (), (), (), (), (), (), (), (), (), (), (), (), (), (), (), (), (), (), (), (), (), (), (), (), (), (), (), (), (), (), (), ()), ()))) (fun y0 => K (.exit 0) (affidavitlaw02_PrimePowers.e0_1.enc (((), (), (), (), (), (), y0, (), (), (), (), (), (), (), (), (), (), (), (), (), (), (), (), (), (), (), (), (), (), (), (), (), (), (), (), (), (), (), (), (), (), (), (), (), (), (), (), (), (), (), (), (), (), (), (), (), (), (), (), (), (), (), (), (), (), (), (), (), ()), ()))) m a.1.1 a.1.2.2.2.2.2.2.1 a.1.2.2.2.2.2.2.2.1 a.2.1 a.2.2.1
noncomputable def affidavitlaw02_PrimePowers.H0 {R : Type} (k : Nat) (st : St) (K : Ex → St → Option R) : Option R := hookL (fun st K => aCode Cx 7 (callT k affidavitlaw02_PrimePowers.T) k (lc Try.f7 0) 0 st K) (Cx.hint 7 0) k affidavitlaw02_PrimePowers.s0.dec (affidavitlaw02_PrimePowers.Q0 k) st K
theorem affidavitlaw02_PrimePowers.h0 {R : Type} (k : Nat) (st : St) (K : Ex → St → Option R) : affidavitlaw02_PrimePowers.H0 k st K = aCode Cx 7 (callT k affidavitlaw02_PrimePowers.T) k (.loop (lc Try.f7 0)) 0 st K :=
  hookL_eq Sh.dec_ok (Φ := affidavitlaw02_PrimePowers.P0 k) (fun K a => rfl) (fun K m a => rfl) (fun K m a => loop_step (hookOf []) (allL (l' := []) (by kernel_rfl) trivial) K m _ (by kernel_rfl)) st K
abbrev affidavitlaw02_PrimePowers.as : List AS := [.ty (.int .u64)]
abbrev affidavitlaw02_PrimePowers.hs : List SS := []
abbrev affidavitlaw02_PrimePowers.rts : List CV := []
abbrev affidavitlaw02_PrimePowers.rs : VS := .one (.bool)
noncomputable def affidavitlaw02_PrimePowers.g : Nat → {R : Type} → HA affidavitlaw02_PrimePowers.as × HS affidavitlaw02_PrimePowers.hs → (affidavitlaw02_PrimePowers.rs.den → Option R) → Option R := fun k {R} a ret => affidavitlaw02_PrimePowers.f k a.1.1 (fun y0 => ret y0)
noncomputable def affidavitlaw02_PrimePowers.E : Entry Try.prog Cx pr where
  id := 7
  args := affidavitlaw02_PrimePowers.as
  heap := affidavitlaw02_PrimePowers.hs
  roots := affidavitlaw02_PrimePowers.rts
  res := affidavitlaw02_PrimePowers.rs
  f := affidavitlaw02_PrimePowers.g
  ok := entry_ok (args := affidavitlaw02_PrimePowers.as) (heap := affidavitlaw02_PrimePowers.hs) (roots := affidavitlaw02_PrimePowers.rts) (res := affidavitlaw02_PrimePowers.rs) (f := affidavitlaw02_PrimePowers.g) rfl Try.func7 affidavitlaw02_PrimePowers.T rfl (fun a K => rfl) (fun k {R} a K => fun_step (c := (Try.f7.body).getD .skip) (by kernel_rfl) (hookOf [(0, affidavitlaw02_PrimePowers.H0 k)]) (allL (l' := [(0, lc Try.f7 0)]) (by kernel_rfl) ⟨affidavitlaw02_PrimePowers.h0 k, trivial⟩) _ K (by kernel_rfl))

/-! ### affidavit/field.inv: function 40 -/
noncomputable def field_inv.B0 {R : Type} (k : Nat) (x0_ : Int → Int → Int → Option R) (rec_ : Int → Int → Int → Int → Int → Option R) (p1 : Int) (r : Int) (s : Int) (x : Int) (y : Int) : Option R :=
  bif (s != 0) then
    (bif (s != 0) then (rec_ p1 s (IntKind.wrap .i64 (r - (IntKind.wrap .i64 ((IntKind.wrap .i64 (Int.tdiv r s)) * s)))) y (IntKind.wrap .i64 (x - (IntKind.wrap .i64 ((IntKind.wrap .i64 (Int.tdiv r s)) * y))))) else none)
  else
    (x0_ p1 r x)
noncomputable def field_inv.L0 {R : Type} (k : Nat) (x0_ : Int → Int → Int → Option R) : Nat → Int → Int → Int → Int → Int → Option R
  | 0, _, _, _, _, _ => none
  | m + 1, p1, r, s, x, y => field_inv.B0 k x0_ (field_inv.L0 k x0_ m) p1 r s x y
noncomputable def field_inv.f {R : Type} : Nat → Int → Int → (Int → Bool → Option R) → Option R
  | 0, _, _, _ => none
  | k + 1, p, a, ret =>
    field_inv.L0 k (fun p2 r1 x1 =>
      bif (decide (x1 < 0)) then
        (ret (IntKind.wrap .u64 (IntKind.wrap .i64 (x1 + (IntKind.wrap .i64 p2)))) (r1 == 1))
      else
        (ret (IntKind.wrap .u64 x1) (r1 == 1))) k p (IntKind.wrap .i64 p) (IntKind.wrap .i64 a) 0 1
noncomputable def field_inv.T : List (Entry Try.prog Cx pr) := []
abbrev field_inv.s0 : Sh := ⟨[.one (.int .u64), u, u, u, u, u, .one (.int .i64), .one (.int .i64), .one (.int .i64), .one (.int .i64), u, u, u, u, u, u, u, u, u, u, u, u, u, u, u, u, u, u, u, u, u, u, u, u, u, u, u, u, u, u, u, u], [], []⟩
abbrev field_inv.e0_0 : Sh := ⟨[.one (.int .u64), u, u, u, u, u, .one (.int .i64), u, .one (.int .i64), u, u, u, u, u, u, u, u, u, u, u, u, u, u, u, u, u, u, u, u, u, u, u, u, u, u, u, u, u, u, u, u, u], [], []⟩
noncomputable def field_inv.P0 {R : Type} (k : Nat) (K : Ex → St → Option R) (rec_ : field_inv.s0.den → Option R) (a : field_inv.s0.den) : Option R := field_inv.B0 k (fun y0 y1 y2 => K (.exit 0) (field_inv.e0_0.enc ((y0, (), (), (), (), (), y1, (), y2, (), (), (), (), (), (), (), (), (), (), (), (), (), (), (), (), (), (), (), (), (), (), (), (), (), (), (), (), (), (), (), (), (), ()), ()))) (fun v0 v1 v2 v3 v4 => rec_ ((v0, (), (), (), (), (), v1, v2, v3, v4, (), (), (), (), (), (), (), (), (), (), (), (), (), (), (), (), (), (), (), (), (), (), (), (), (), (), (), (), (), (), (), (), ()), ())) a.1.1 a.1.2.2.2.2.2.2.1 a.1.2.2.2.2.2.2.2.1 a.1.2.2.2.2.2.2.2.2.1 a.1.2.2.2.2.2.2.2.2.2.1
noncomputable def field_inv.Q0 {R : Type} (k : Nat) (K : Ex → St → Option R) (m : Nat) (a : field_inv.s0.den) : Option R := field_inv.L0 k (fun y0 y1 y2 => K (.exit 0) (field_inv.e0_0.enc ((y0, (), (), (), (), (), y1, (), y2, (), (), (), (), (), (), (), (), (), (), (), (), (), (), (), (), (), (), (), (), (), (), (), (), (), (), (), (), (), (), (), (), (), ()), ()))) m a.1.1 a.1.2.2.2.2.2.2.1 a.1.2.2.2.2.2.2.2.1 a.1.2.2.2.2.2.2.2.2.1 a.1.2.2.2.2.2.2.2.2.2.1
noncomputable def field_inv.H0 {R : Type} (k : Nat) (st : St) (K : Ex → St → Option R) : Option R := hookL (fun st K => aCode Cx 40 (callT k field_inv.T) k (lc Try.f40 0) 0 st K) (Cx.hint 40 0) k field_inv.s0.dec (field_inv.Q0 k) st K
theorem field_inv.h0 {R : Type} (k : Nat) (st : St) (K : Ex → St → Option R) : field_inv.H0 k st K = aCode Cx 40 (callT k field_inv.T) k (.loop (lc Try.f40 0)) 0 st K :=
  hookL_eq Sh.dec_ok (Φ := field_inv.P0 k) (fun K a => rfl) (fun K m a => rfl) (fun K m a => loop_step (hookOf []) (allL (l' := []) (by kernel_rfl) trivial) K m _ (by kernel_rfl)) st K
abbrev field_inv.as : List AS := [.ty (.int .u64), .ty (.int .u64)]
abbrev field_inv.hs : List SS := []
abbrev field_inv.rts : List CV := []
abbrev field_inv.rs : VS := .tup [(false, [.int .u64]), (false, [.bool])]
noncomputable def field_inv.g : Nat → {R : Type} → HA field_inv.as × HS field_inv.hs → (field_inv.rs.den → Option R) → Option R := fun k {R} a ret => field_inv.f k a.1.1 a.1.2.1 (fun y0 y1 => ret ((y0, ()), (y1, ()), ()))
noncomputable def field_inv.E : Entry Try.prog Cx pr where
  id := 40
  args := field_inv.as
  heap := field_inv.hs
  roots := field_inv.rts
  res := field_inv.rs
  f := field_inv.g
  ok := entry_ok (args := field_inv.as) (heap := field_inv.hs) (roots := field_inv.rts) (res := field_inv.rs) (f := field_inv.g) rfl Try.func40 field_inv.T rfl (fun a K => rfl) (fun k {R} a K => fun_step (c := (Try.f40.body).getD .skip) (by kernel_rfl) (hookOf [(0, field_inv.H0 k)]) (allL (l' := [(0, lc Try.f40 0)]) (by kernel_rfl) ⟨field_inv.h0 k, trivial⟩) _ K (by kernel_rfl))

/-! ### affidavit/field.Inv: function 24 -/
noncomputable def field_Inv.f {R : Type} : Nat → Int → Int → (Int → Int → Option R) → Option R
  | 0, _, _, _ => none
  | k + 1, p, a, ret =>
    field_Has.f k p ([a] : List Int) (fun b =>
      bif (!b) then
        (ret 0 1)
      else
        (field_inv.f k p a (fun n b1 =>
          bif (!b1) then
            (ret 0 5)
          else
            (ret n 0))))
noncomputable def field_Inv.T : List (Entry Try.prog Cx pr) := [field_Has.E, field_inv.E]
abbrev field_Inv.as : List AS := [.ty (.int .u64), .ty (.int .u64)]
abbrev field_Inv.hs : List SS := []
abbrev field_Inv.rts : List CV := []
abbrev field_Inv.rs : VS := .tup [(false, [.int .u64]), (false, [.int .i64])]
noncomputable def field_Inv.g : Nat → {R : Type} → HA field_Inv.as × HS field_Inv.hs → (field_Inv.rs.den → Option R) → Option R := fun k {R} a ret => field_Inv.f k a.1.1 a.1.2.1 (fun y0 y1 => ret ((y0, ()), (y1, ()), ()))
noncomputable def field_Inv.E : Entry Try.prog Cx pr where
  id := 24
  args := field_Inv.as
  heap := field_Inv.hs
  roots := field_Inv.rts
  res := field_Inv.rs
  f := field_Inv.g
  ok := entry_ok (args := field_Inv.as) (heap := field_Inv.hs) (roots := field_Inv.rts) (res := field_Inv.rs) (f := field_Inv.g) rfl Try.func24 field_Inv.T rfl (fun a K => rfl) (fun k {R} a K => fun_step (c := (Try.f24.body).getD .skip) (by kernel_rfl) (hookOf []) (allL (l' := []) (by kernel_rfl) trivial) _ K (by kernel_rfl))

/-! ### affidavit/affidavitref01.Gcd: function 26 -/
noncomputable def affidavitref01_Gcd.B0 {R : Type} (k : Nat) (x0_ : Int → Option R) (rec_ : Int → Int → Option R) (a1 : Int) (b1 : Int) : Option R :=
  bif (b1 != 0) then
    (bif (b1 != 0) then (rec_ b1 (Int.tmod a1 b1)) else none)
  else
    (x0_ a1)
noncomputable def affidavitref01_Gcd.L0 {R : Type} (k : Nat) (x0_ : Int → Option R) : Nat → Int → Int → Option R
  | 0, _, _ => none
  | m + 1, a1, b1 => affidavitref01_Gcd.B0 k x0_ (affidavitref01_Gcd.L0 k x0_ m) a1 b1
noncomputable def affidavitref01_Gcd.f {R : Type} : Nat → Int → Int → (Int → Option R) → Option R
  | 0, _, _, _ => none
  | k + 1, a, b, ret =>
    affidavitref01_Gcd.L0 k (fun a2 =>
      ret a2) k a b
noncomputable def affidavitref01_Gcd.T : List (Entry Try.prog Cx pr) := []
abbrev affidavitref01_Gcd.s0 : Sh := ⟨[.one (.int .u64), .one (.int .u64), u, u, u, u, u, u, u, u, u, u], [], []⟩
abbrev affidavitref01_Gcd.e0_0 : Sh := ⟨[.one (.int .u64), u, u, u, u, u, u, u, u, u, u, u], [], []⟩
noncomputable def affidavitref01_Gcd.P0 {R : Type} (k : Nat) (K : Ex → St → Option R) (rec_ : affidavitref01_Gcd.s0.den → Option R) (a : affidavitref01_Gcd.s0.den) : Option R := affidavitref01_Gcd.B0 k (fun y0 => K (.exit 0) (affidavitref01_Gcd.e0_0.enc ((y0, (), (), (), (), (), (), (), (), (), (), (), ()), ()))) (fun v0 v1 => rec_ ((v0, v1, (), (), (), (), (), (), (), (), (), (), ()), ())) a.1.1 a.1.2.1
noncomputable def affidavitref01_Gcd.Q0 {R : Type} (k : Nat) (K : Ex → St → Option R) (m : Nat) (a : affidavitref01_Gcd.s0.den) : Option R := affidavitref01_Gcd.L0 k (fun y0 => K (.exit 0) (affidavitref01_Gcd.e0_0.enc ((y0, (), (), (), (), (), (), (), (), (), (), (), ()), ()))) m a.1.1 a.1.2.1
noncomputable def affidavitref01_Gcd.H0 {R : Type} (k : Nat) (st : St) (K : Ex → St → Option R) : Option R := hookL (fun st K => aCode Cx 26 (callT k affidavitref01_Gcd.T) k (lc Try.f26 0) 0 st K) (Cx.hint 26 0) k affidavitref01_Gcd.s0.dec (affidavitref01_Gcd.Q0 k) st K
theorem affidavitref01_Gcd.h0 {R : Type} (k : Nat) (st : St) (K : Ex → St → Option R) : affidavitref01_Gcd.H0 k st K = aCode Cx 26 (callT k affidavitref01_Gcd.T) k (.loop (lc Try.f26 0)) 0 st K :=
  hookL_eq Sh.dec_ok (Φ := affidavitref01_Gcd.P0 k) (fun K a => rfl) (fun K m a => rfl) (fun K m a => loop_step (hookOf []) (allL (l' := []) (by kernel_rfl) trivial) K m _ (by kernel_rfl)) st K
abbrev affidavitref01_Gcd.as : List AS := [.ty (.int .u64), .ty (.int .u64)]
abbrev affidavitref01_Gcd.hs : List SS := []
abbrev affidavitref01_Gcd.rts : List CV := []
abbrev affidavitref01_Gcd.rs : VS := .one (.int .u64)
noncomputable def affidavitref01_Gcd.g : Nat → {R : Type} → HA affidavitref01_Gcd.as × HS affidavitref01_Gcd.hs → (affidavitref01_Gcd.rs.den → Option R) → Option R := fun k {R} a ret => affidavitref01_Gcd.f k a.1.1 a.1.2.1 (fun y0 => ret y0)
noncomputable def affidavitref01_Gcd.E : Entry Try.prog Cx pr where
  id := 26
  args := affidavitref01_Gcd.as
  heap := affidavitref01_Gcd.hs
  roots := affidavitref01_Gcd.rts
  res := affidavitref01_Gcd.rs
  f := affidavitref01_Gcd.g
  ok := entry_ok (args := affidavitref01_Gcd.as) (heap := affidavitref01_Gcd.hs) (roots := affidavitref01_Gcd.rts) (res := affidavitref01_Gcd.rs) (f := affidavitref01_Gcd.g) rfl Try.func26 affidavitref01_Gcd.T rfl (fun a K => rfl) (fun k {R} a K => fun_step (c := (Try.f26.body).getD .skip) (by kernel_rfl) (hookOf [(0, affidavitref01_Gcd.H0 k)]) (allL (l' := [(0, lc Try.f26 0)]) (by kernel_rfl) ⟨affidavitref01_Gcd.h0 k, trivial⟩) _ K (by kernel_rfl))

/-! ### affidavit/affidavitlaw02.PrimeShown: function 8 -/
noncomputable def affidavitlaw02_PrimeShown.B0 {R : Type} (k : Nat) (x0_ : Bool → Option R) (x1_ : Unit → Option R) (rec_ : List (Int × Int × List (Int × Int)) → Int → Int → Option R) (l1 : List (Int × Int × List (Int × Int))) (a1 : Int) (i : Int) : Option R :=
  bif (decide (i < (l1.length : Int))) then
    (bif (decide (0 ≤ i) && decide (i < (l1.length : Int))) then (bif (decide (((l1.getD i.toNat (0, 0, [])).1) < 1073741824)) then
      (affidavitref02_Is.f k ((l1.getD i.toNat (0, 0, [])).1) (fun b3 =>
        bif (!b3) then
          (x0_ false)
        else
          (bif ((IntKind.wrap .u64 (((l1.getD i.toNat (0, 0, [])).1) - 1)) != 0) then (field_Inv.f k ((l1.getD i.toNat (0, 0, [])).1) (IntKind.wrap .u64 ((Int.tmod a1 (IntKind.wrap .u64 (((l1.getD i.toNat (0, 0, [])).1) - 1))) + 1)) (fun n n1 =>
            field_Pow.f k ((l1.getD i.toNat (0, 0, [])).1) (IntKind.wrap .u64 ((Int.tmod a1 (IntKind.wrap .u64 (((l1.getD i.toNat (0, 0, [])).1) - 1))) + 1)) (IntKind.wrap .u64 (((l1.getD i.toNat (0, 0, [])).1) - 1)) (fun n2 n3 =>
              bif (n1 != 0) then
                (x0_ false)
              else
                (bif (n3 != 0) then
                  (x0_ false)
                else
                  (bif (n2 != 1) then
                    (x0_ false)
                  else
                    (affidavitref01_Gcd.f k ((l1.getD i.toNat (0, 0, [])).1) (IntKind.wrap .u64 ((Int.tmod a1 (IntKind.wrap .u64 (((l1.getD i.toNat (0, 0, [])).1) - 1))) + 1)) (fun n4 =>
                      bif (n4 != 1) then
                        (x0_ false)
                      else
                        (bif (decide (0 ≤ (IntKind.wrap .i64 (i + 1))) && decide ((IntKind.wrap .i64 (i + 1)) ≤ (l1.length : Int))) then (prime_Shows.f k (l1.take (IntKind.wrap .i64 (i + 1)).toNat) ((l1.getD i.toNat (0, 0, [])).1) (fun b4 =>
                          bif (!b4) then
                            (x0_ false)
                          else
                            (rec_ l1 a1 (IntKind.wrap .i64 (i + 1))))) else none)))))))) else none)))
    else
      (bif ((IntKind.wrap .u64 (((l1.getD i.toNat (0, 0, [])).1) - 1)) != 0) then (field_Inv.f k ((l1.getD i.toNat (0, 0, [])).1) (IntKind.wrap .u64 ((Int.tmod a1 (IntKind.wrap .u64 (((l1.getD i.toNat (0, 0, [])).1) - 1))) + 1)) (fun n5 n6 =>
        field_Pow.f k ((l1.getD i.toNat (0, 0, [])).1) (IntKind.wrap .u64 ((Int.tmod a1 (IntKind.wrap .u64 (((l1.getD i.toNat (0, 0, [])).1) - 1))) + 1)) (IntKind.wrap .u64 (((l1.getD i.toNat (0, 0, [])).1) - 1)) (fun n7 n8 =>
          bif (n6 != 0) then
            (x0_ false)
          else
            (bif (n8 != 0) then
              (x0_ false)
            else
              (bif (n7 != 1) then
                (x0_ false)
              else
                (affidavitref01_Gcd.f k ((l1.getD i.toNat (0, 0, [])).1) (IntKind.wrap .u64 ((Int.tmod a1 (IntKind.wrap .u64 (((l1.getD i.toNat (0, 0, [])).1) - 1))) + 1)) (fun n9 =>
                  bif (n9 != 1) then
                    (x0_ false)
                  else
                    (bif (decide (0 ≤ (IntKind.wrap .i64 (i + 1))) && decide ((IntKind.wrap .i64 (i + 1)) ≤ (l1.length : Int))) then (prime_Shows.f k (l1.take (IntKind.wrap .i64 (i + 1)).toNat) ((l1.getD i.toNat (0, 0, [])).1) (fun b5 =>
                      bif (!b5) then
                        (x0_ false)
                      else
                        (rec_ l1 a1 (IntKind.wrap .i64 (i + 1))))) else none)))))))) else none)) else none)
  else
    (x1_ ())
noncomputable def affidavitlaw02_PrimeShown.L0 {R : Type} (k : Nat) (x0_ : Bool → Option R) (x1_ : Unit → Option R) : Nat → List (Int × Int × List (Int × Int)) → Int → Int → Option R
  | 0, _, _, _ => none
  | m + 1, l1, a1, i => affidavitlaw02_PrimeShown.B0 k x0_ x1_ (affidavitlaw02_PrimeShown.L0 k x0_ x1_ m) l1 a1 i
noncomputable def affidavitlaw02_PrimeShown.f {R : Type} : Nat → (List (Int × Int × List (Int × Int))) → Int → (Bool → Option R) → Option R
  | 0, _, _, _ => none
  | k + 1, l, a, ret =>
    affidavitlaw02_awake.f k (fun b =>
      bif (!b) then
        (ret false)
      else
        (affidavitref02_Short.f k l (fun b1 =>
          bif (!b1) then
            (ret true)
          else
            (prime_Check.f k l (fun b2 =>
              bif (!b2) then
                (ret true)
              else
                (affidavitlaw02_PrimeShown.L0 k (fun t4 =>
                  ret t4) (fun _ =>
                  ret true) k l a 0))))))
noncomputable def affidavitlaw02_PrimeShown.T : List (Entry Try.prog Cx pr) := [affidavitlaw02_awake.E, affidavitref02_Short.E, prime_Check.E, affidavitref02_Is.E, field_Inv.E, field_Pow.E, affidavitref01_Gcd.E, prime_Shows.E]
abbrev affidavitlaw02_PrimeShown.s0 : Sh := ⟨[.one (.vsl tProof), .one (.int .u64), u, u, u, .one (.int .i64), u, u, u, u, u, u, u, u, u, u, u, u, u, u, u, u, u, u, u, u, u, u, u, u, u, u, u, u, u, u, u, u, u, u, u, u, u, u, u, u, u, u, u, u, u, u, u, u, u, u, u, u, u, u, u, u, u, u, u, u, u, u, u, u, u, u, u, u, u, u, u, u, u, u, u, u, u, u], [], []⟩
abbrev affidavitlaw02_PrimeShown.e0_0 : Sh := ⟨[u, u, u, u, .one (.bool), u, u, u, u, u, u, u, u, u, u, u, u, u, u, u, u, u, u, u, u, u, u, u, u, u, u, u, u, u, u, u, u, u, u, u, u, u, u, u, u, u, u, u, u, u, u, u, u, u, u, u, u, u, u, u, u, u, u, u, u, u, u, u, u, u, u, u, u, u, u, u, u, u, u, u, u, u, u, u], [], []⟩
abbrev affidavitlaw02_PrimeShown.e0_1 : Sh := ⟨[u, u, u, u, u, u, u, u, u, u, u, u, u, u, u, u, u, u, u, u, u, u, u, u, u, u, u, u, u, u, u, u, u, u, u, u, u, u, u, u, u, u, u, u, u, u, u, u, u, u, u, u, u, u, u, u, u, u, u, u, u, u, u, u, u, u, u, u, u, u, u, u, u, u, u, u, u, u, u, u, u, u, u, u], [], []⟩
noncomputable def affidavitlaw02_PrimeShown.P0 {R : Type} (k : Nat) (K : Ex → St → Option R) (rec_ : affidavitlaw02_PrimeShown.s0.den → Option R) (a : affidavitlaw02_PrimeShown.s0.den) : Option R := affidavitlaw02_PrimeShown.B0 k (fun y0 => K .ret (affidavitlaw02_PrimeShown.e0_0.enc (((), (), (), (), y0, (), (), (), (), (), (), (), (), (), (), (), (), (), (), (), (), (), (), (), (), (), (), (), (), (), (), (), (), (), (), (), (), (), (), (), (), (), (), (), (), (), (), (), (), (), (), (), (), (), (), (), (), (), (), (), (), (), (), (), (), (), (), (), (), (), (), (), (), (), (), (), (), (), (), (), (), (), (), (), ()), ()))) (fun _ => K (.exit 0) (affidavitlaw02_PrimeShown.e0_1.enc (((), (), (), (), (), (), (), (), (), (), (), (), (), (), (), (), (), (), (), (), (), (), (), (), (), (), (), (), (), (), (), (), (), (), (), (), (), (), (), (), (), (), (), (), (), (), (), (), (), (), (), (), (), (), (), (), (), (), (), (), (), (), (), (), (), (), (), (), (), (), (), (), (), (), (), (), (), (), (), (), (), (), (), (), ()), ()))) (fun v0 v1 v2 => rec_ ((v0, v1, (), (), (), v2, (), (), (), (), (), (), (), (), (), (), (), (), (), (), (), (), (), (), (), (), (), (), (), (), (), (), (), (), (), (), (), (), (), (), (), (), (), (), (), (), (), (), (), (), (), (), (), (), (), (), (), (), (), (), (), (), (), (), (), (), (), (), (), (), (), (), (), (), (), (), (), (), (), (), (), (), (), (), ()), ())) a.1.1 a.1.2.1 a.1.2.2.2.2.2.1
noncomputable def affidavitlaw02_PrimeShown.Q0 {R : Type} (k : Nat) (K : Ex → St → Option R) (m : Nat) (a : affidavitlaw02_PrimeShown.s0.den) : Option R := affidavitlaw02_PrimeShown.L0 k (fun y0 => K .ret (affidavitlaw02_PrimeShown.e0_0.enc (((), (), (), (), y0, (), (), (), (), (), (), (), (), (), (), (), (), (), (), (), (), (), (), (), (), (), (), (), (), (), (), (), (), (), (), (), (), (), (), (), (), (), (), (), (), (), (), (), (), (), (), (), (), (), (), (), (), (), (), (), (), (), (), (), (), (), (), (), (), (), (), (), (), (), (), (), (), (), (), (), (), (), (), (), ()), ()))) (fun _ => K (.exit 0) (affidavitlaw02_PrimeShown.e0_1.enc (((), (), (), (), (), (), (), (), (), (), (), (), (), (), (), (), (), (), (), (), (), (), (), (), (), (), (), (), (), (), (), (), (), (), (), (), (), (), (), (), (), (), (), (), (), (), (), (), (), (), (), (), (), (), (), (), (), (), (), (), (), (), (), (), (), (), (), (), (), (), (), (), (), (), (), (), (), (), (), (), (), (), (), (), ()), ()))) m a.1.1 a.1.2.1 a.1.2.2.2.2.2.1
noncomputable def affidavitlaw02_PrimeShown.H0 {R : Type} (k : Nat) (st : St) (K : Ex → St → Option R) : Option R := hookL (fun st K => aCode Cx 8 (callT k affidavitlaw02_PrimeShown.T) k (lc Try.f8 0) 0 st K) (Cx.hint 8 0) k affidavitlaw02_PrimeShown.s0.dec (affidavitlaw02_PrimeShown.Q0 k) st K
theorem affidavitlaw02_PrimeShown.h0 {R : Type} (k : Nat) (st : St) (K : Ex → St → Option R) : affidavitlaw02_PrimeShown.H0 k st K = aCode Cx 8 (callT k affidavitlaw02_PrimeShown.T) k (.loop (lc Try.f8 0)) 0 st K :=
  hookL_eq Sh.dec_ok (Φ := affidavitlaw02_PrimeShown.P0 k) (fun K a => rfl) (fun K m a => rfl) (fun K m a => loop_step (hookOf []) (allL (l' := []) (by kernel_rfl) trivial) K m _ (by kernel_rfl)) st K
abbrev affidavitlaw02_PrimeShown.as : List AS := [.ty (.sl tProof), .ty (.int .u64)]
abbrev affidavitlaw02_PrimeShown.hs : List SS := []
abbrev affidavitlaw02_PrimeShown.rts : List CV := []
abbrev affidavitlaw02_PrimeShown.rs : VS := .one (.bool)
noncomputable def affidavitlaw02_PrimeShown.g : Nat → {R : Type} → HA affidavitlaw02_PrimeShown.as × HS affidavitlaw02_PrimeShown.hs → (affidavitlaw02_PrimeShown.rs.den → Option R) → Option R := fun k {R} a ret => affidavitlaw02_PrimeShown.f k a.1.1 a.1.2.1 (fun y0 => ret y0)
noncomputable def affidavitlaw02_PrimeShown.E : Entry Try.prog Cx pr where
  id := 8
  args := affidavitlaw02_PrimeShown.as
  heap := affidavitlaw02_PrimeShown.hs
  roots := affidavitlaw02_PrimeShown.rts
  res := affidavitlaw02_PrimeShown.rs
  f := affidavitlaw02_PrimeShown.g
  ok := entry_ok (args := affidavitlaw02_PrimeShown.as) (heap := affidavitlaw02_PrimeShown.hs) (roots := affidavitlaw02_PrimeShown.rts) (res := affidavitlaw02_PrimeShown.rs) (f := affidavitlaw02_PrimeShown.g) rfl Try.func8 affidavitlaw02_PrimeShown.T rfl (fun a K => rfl) (fun k {R} a K => fun_step (c := (Try.f8.body).getD .skip) (by kernel_rfl) (hookOf [(0, affidavitlaw02_PrimeShown.H0 k)]) (allL (l' := [(0, lc Try.f8 0)]) (by kernel_rfl) ⟨affidavitlaw02_PrimeShown.h0 k, trivial⟩) _ K (by kernel_rfl))
end Go.Proofs.Ytanpdkllnmeenaa.M

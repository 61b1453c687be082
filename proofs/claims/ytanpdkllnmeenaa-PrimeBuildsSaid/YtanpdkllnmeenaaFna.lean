/- Functions. -/
import Derived.Test.YtanpdkllnmeenaaCxa
set_option linter.unusedVariables false
set_option maxRecDepth 100000
namespace Go.Proofs.Ytanpdkllnmeenaa.M
open Go Go.RowKit Go.Proofs Go.Proofs.Ytanpdkllnmeenaa.Am
abbrev str0 : ByteArray := (⟨#[0, 1, 2, 2, 3, 3, 3, 3, 4, 4, 4, 4, 4, 4, 4, 4, 5, 5, 5, 5, 5, 5, 5, 5, 5, 5, 5, 5, 5, 5, 5, 5, 6, 6, 6, 6, 6, 6, 6, 6, 6, 6, 6, 6, 6, 6, 6, 6, 6, 6, 6, 6, 6, 6, 6, 6, 6, 6, 6, 6, 6, 6, 6, 6, 7, 7, 7, 7, 7, 7, 7, 7, 7, 7, 7, 7, 7, 7, 7, 7, 7, 7, 7, 7, 7, 7, 7, 7, 7, 7, 7, 7, 7, 7, 7, 7, 7, 7, 7, 7, 7, 7, 7, 7, 7, 7, 7, 7, 7, 7, 7, 7, 7, 7, 7, 7, 7, 7, 7, 7, 7, 7, 7, 7, 7, 7, 7, 7, 8, 8, 8, 8, 8, 8, 8, 8, 8, 8, 8, 8, 8, 8, 8, 8, 8, 8, 8, 8, 8, 8, 8, 8, 8, 8, 8, 8, 8, 8, 8, 8, 8, 8, 8, 8, 8, 8, 8, 8, 8, 8, 8, 8, 8, 8, 8, 8, 8, 8, 8, 8, 8, 8, 8, 8, 8, 8, 8, 8, 8, 8, 8, 8, 8, 8, 8, 8, 8, 8, 8, 8, 8, 8, 8, 8, 8, 8, 8, 8, 8, 8, 8, 8, 8, 8, 8, 8, 8, 8, 8, 8, 8, 8, 8, 8, 8, 8, 8, 8, 8, 8, 8, 8, 8, 8, 8, 8, 8, 8, 8, 8, 8, 8, 8, 8, 8, 8, 8, 8, 8, 8, 8, 8, 8, 8, 8, 8]⟩ : ByteArray)

/-! ### affidavit/prime.Parts: function 16 -/
noncomputable def prime_Parts.B2 {R : Type} (k : Nat) (x0_ : Int → Int → Int → List (Int × Int) → Option R) (rec_ : Int → Int → Int → List (Int × Int) → Option R) (n2 : Int) (q1 : Int) (times : Int) (out1 : List (Int × Int)) : Option R :=
  bif (q1 != 0) then (bif ((Int.tmod n2 q1) == 0) then
    (bif (q1 != 0) then (rec_ (IntKind.wrap .u64 (Int.tdiv n2 q1)) q1 (IntKind.wrap .i64 (times + 1)) out1) else none)
  else
    (x0_ n2 q1 times out1)) else none
noncomputable def prime_Parts.L2 {R : Type} (k : Nat) (x0_ : Int → Int → Int → List (Int × Int) → Option R) : Nat → Int → Int → Int → List (Int × Int) → Option R
  | 0, _, _, _, _ => none
  | m + 1, n2, q1, times, out1 => prime_Parts.B2 k x0_ (prime_Parts.L2 k x0_ m) n2 q1 times out1
noncomputable def prime_Parts.B0 {R : Type} (k : Nat) (x0_ : Int → List (Int × Int) → Option R) (rec_ : Int → Int → List (Int × Int) → Option R) (n1 : Int) (q : Int) (out : List (Int × Int)) : Option R :=
  bif (decide (q ≤ 65536)) then
    (bif (decide ((IntKind.wrap .u64 (q * q)) ≤ n1)) then
      (prime_Parts.L2 k (fun n3 q2 times1 out2 =>
        bif (decide (times1 > 0)) then
          (bif (decide ((out2 ++ ([(q2, times1)] : List (Int × Int))).length < 1099511627776)) then (rec_ n3 (IntKind.wrap .u64 (q2 + 1)) (out2 ++ ([(q2, times1)] : List (Int × Int)))) else none)
        else
          (rec_ n3 (IntKind.wrap .u64 (q2 + 1)) out2)) k n1 q 0 out)
    else
      (x0_ n1 out))
  else
    (x0_ n1 out)
noncomputable def prime_Parts.L0 {R : Type} (k : Nat) (x0_ : Int → List (Int × Int) → Option R) : Nat → Int → Int → List (Int × Int) → Option R
  | 0, _, _, _ => none
  | m + 1, n1, q, out => prime_Parts.B0 k x0_ (prime_Parts.L0 k x0_ m) n1 q out
noncomputable def prime_Parts.f {R : Type} : Nat → Int → (List (Int × Int) → Int → Option R) → Option R
  | 0, _, _ => none
  | k + 1, n, ret =>
    bif (n == 0) then
      (ret ([]) 1)
    else
      (bif (decide (n ≥ 9223372036854775808)) then
        (ret ([]) 1)
      else
        (prime_Parts.L0 k (fun n4 out3 =>
          bif (decide (n4 ≥ 4294967296)) then
            (ret ([]) 3)
          else
            (bif (decide (n4 > 1)) then
              (bif (decide ((out3 ++ ([(n4, 1)] : List (Int × Int))).length < 1099511627776)) then (ret (out3 ++ ([(n4, 1)] : List (Int × Int))) 0) else none)
            else
              (ret out3 0))) k n 2 ([])))
noncomputable def prime_Parts.T : List (Entry Try.prog Cx pr) := []
abbrev prime_Parts.s2 : Sh := ⟨[.one (.int .u64), u, u, u, .one (.ref 0), .one (.int .u64), .one (.int .i64), u, u, u, u, u, u, u, u, u, u, u, u, u, u, u, u, u, u, u, u, u, u, u, u, u, u, u, u, u, u, u, u, u, u, u, u, u, u, u, u, u, u, u, u, u, u], [.row true 37 tPart], []⟩
abbrev prime_Parts.e2_0 : Sh := ⟨[.one (.int .u64), u, u, u, .one (.ref 0), .one (.int .u64), .one (.int .i64), u, u, u, u, u, u, u, u, u, u, u, u, u, u, u, u, u, u, u, u, u, u, u, u, u, u, u, u, u, u, u, u, u, u, u, u, u, u, u, u, u, u, u, u, u, u], [.row true 37 tPart], []⟩
noncomputable def prime_Parts.P2 {R : Type} (k : Nat) (K : Ex → St → Option R) (rec_ : prime_Parts.s2.den → Option R) (a : prime_Parts.s2.den) : Option R := prime_Parts.B2 k (fun y0 y1 y2 y3 => K (.exit 2) (prime_Parts.e2_0.enc ((y0, (), (), (), (), y1, y2, (), (), (), (), (), (), (), (), (), (), (), (), (), (), (), (), (), (), (), (), (), (), (), (), (), (), (), (), (), (), (), (), (), (), (), (), (), (), (), (), (), (), (), (), (), (), ()), (y3, ())))) (fun v0 v1 v2 v3 => rec_ ((v0, (), (), (), (), v1, v2, (), (), (), (), (), (), (), (), (), (), (), (), (), (), (), (), (), (), (), (), (), (), (), (), (), (), (), (), (), (), (), (), (), (), (), (), (), (), (), (), (), (), (), (), (), (), ()), (v3, ()))) a.1.1 a.1.2.2.2.2.2.1 a.1.2.2.2.2.2.2.1 a.2.1
noncomputable def prime_Parts.Q2 {R : Type} (k : Nat) (K : Ex → St → Option R) (m : Nat) (a : prime_Parts.s2.den) : Option R := prime_Parts.L2 k (fun y0 y1 y2 y3 => K (.exit 2) (prime_Parts.e2_0.enc ((y0, (), (), (), (), y1, y2, (), (), (), (), (), (), (), (), (), (), (), (), (), (), (), (), (), (), (), (), (), (), (), (), (), (), (), (), (), (), (), (), (), (), (), (), (), (), (), (), (), (), (), (), (), (), ()), (y3, ())))) m a.1.1 a.1.2.2.2.2.2.1 a.1.2.2.2.2.2.2.1 a.2.1
noncomputable def prime_Parts.H2 {R : Type} (k : Nat) (st : St) (K : Ex → St → Option R) : Option R := hookL (fun st K => aCode Cx 16 (callT k prime_Parts.T) k (lc Try.f16 2) 2 st K) (Cx.hint 16 2) k prime_Parts.s2.dec (prime_Parts.Q2 k) st K
theorem prime_Parts.h2 {R : Type} (k : Nat) (st : St) (K : Ex → St → Option R) : prime_Parts.H2 k st K = aCode Cx 16 (callT k prime_Parts.T) k (.loop (lc Try.f16 2)) 2 st K :=
  hookL_eq Sh.dec_ok (Φ := prime_Parts.P2 k) (fun K a => rfl) (fun K m a => rfl) (fun K m a => loop_step (hookOf []) (allL (l' := []) (by kernel_rfl) trivial) K m _ (by kernel_rfl)) st K
abbrev prime_Parts.s0 : Sh := ⟨[.one (.int .u64), u, u, u, .one (.ref 0), .one (.int .u64), u, u, u, u, u, u, u, u, u, u, u, u, u, u, u, u, u, u, u, u, u, u, u, u, u, u, u, u, u, u, u, u, u, u, u, u, u, u, u, u, u, u, u, u, u, u, u], [.row true 37 tPart], []⟩
abbrev prime_Parts.e0_0 : Sh := ⟨[.one (.int .u64), u, u, u, .one (.ref 0), u, u, u, u, u, u, u, u, u, u, u, u, u, u, u, u, u, u, u, u, u, u, u, u, u, u, u, u, u, u, u, u, u, u, u, u, u, u, u, u, u, u, u, u, u, u, u, u], [.row true 37 tPart], []⟩
noncomputable def prime_Parts.P0 {R : Type} (k : Nat) (K : Ex → St → Option R) (rec_ : prime_Parts.s0.den → Option R) (a : prime_Parts.s0.den) : Option R := prime_Parts.B0 k (fun y0 y1 => K (.exit 0) (prime_Parts.e0_0.enc ((y0, (), (), (), (), (), (), (), (), (), (), (), (), (), (), (), (), (), (), (), (), (), (), (), (), (), (), (), (), (), (), (), (), (), (), (), (), (), (), (), (), (), (), (), (), (), (), (), (), (), (), (), (), ()), (y1, ())))) (fun v0 v1 v2 => rec_ ((v0, (), (), (), (), v1, (), (), (), (), (), (), (), (), (), (), (), (), (), (), (), (), (), (), (), (), (), (), (), (), (), (), (), (), (), (), (), (), (), (), (), (), (), (), (), (), (), (), (), (), (), (), (), ()), (v2, ()))) a.1.1 a.1.2.2.2.2.2.1 a.2.1
noncomputable def prime_Parts.Q0 {R : Type} (k : Nat) (K : Ex → St → Option R) (m : Nat) (a : prime_Parts.s0.den) : Option R := prime_Parts.L0 k (fun y0 y1 => K (.exit 0) (prime_Parts.e0_0.enc ((y0, (), (), (), (), (), (), (), (), (), (), (), (), (), (), (), (), (), (), (), (), (), (), (), (), (), (), (), (), (), (), (), (), (), (), (), (), (), (), (), (), (), (), (), (), (), (), (), (), (), (), (), (), ()), (y1, ())))) m a.1.1 a.1.2.2.2.2.2.1 a.2.1
noncomputable def prime_Parts.H0 {R : Type} (k : Nat) (st : St) (K : Ex → St → Option R) : Option R := hookL (fun st K => aCode Cx 16 (callT k prime_Parts.T) k (lc Try.f16 0) 0 st K) (Cx.hint 16 0) k prime_Parts.s0.dec (prime_Parts.Q0 k) st K
theorem prime_Parts.h0 {R : Type} (k : Nat) (st : St) (K : Ex → St → Option R) : prime_Parts.H0 k st K = aCode Cx 16 (callT k prime_Parts.T) k (.loop (lc Try.f16 0)) 0 st K :=
  hookL_eq Sh.dec_ok (Φ := prime_Parts.P0 k) (fun K a => rfl) (fun K m a => rfl) (fun K m a => loop_step (hookOf [(2, prime_Parts.H2 k)]) (allL (l' := [(2, lc Try.f16 2)]) (by kernel_rfl) ⟨prime_Parts.h2 k, trivial⟩) K m _ (by kernel_rfl)) st K
abbrev prime_Parts.as : List AS := [.ty (.int .u64)]
abbrev prime_Parts.hs : List SS := []
abbrev prime_Parts.rts : List CV := []
abbrev prime_Parts.rs : VS := .tup [(false, [.own 37 tPart]), (false, [.int .i64])]
noncomputable def prime_Parts.g : Nat → {R : Type} → HA prime_Parts.as × HS prime_Parts.hs → (prime_Parts.rs.den → Option R) → Option R := fun k {R} a ret => prime_Parts.f k a.1.1 (fun y0 y1 => ret ((y0, ()), (y1, ()), ()))
noncomputable def prime_Parts.E : Entry Try.prog Cx pr where
  id := 16
  args := prime_Parts.as
  heap := prime_Parts.hs
  roots := prime_Parts.rts
  res := prime_Parts.rs
  f := prime_Parts.g
  ok := entry_ok (args := prime_Parts.as) (heap := prime_Parts.hs) (roots := prime_Parts.rts) (res := prime_Parts.rs) (f := prime_Parts.g) rfl Try.func16 prime_Parts.T rfl (fun a K => rfl) (fun k {R} a K => fun_step (c := (Try.f16.body).getD .skip) (by kernel_rfl) (hookOf [(0, prime_Parts.H0 k)]) (allL (l' := [(0, lc Try.f16 0)]) (by kernel_rfl) ⟨prime_Parts.h0 k, trivial⟩) _ K (by kernel_rfl))

/-! ### affidavit/prime.product: function 53 -/
noncomputable def prime_product.B2 {R : Type} (k : Nat) (x0_ : Bool → Option R) (x1_ : Int → List (Int × Int) → Int → Int → Option R) (rec_ : Int → List (Int × Int) → Int → Int → Int → Int → Int → Int → Option R) (n2 : Int) (t71 : List (Int × Int)) (t81 : Int) (t91 : Int) (t27 : Int) (t28 : Int) (x : Int) (x1 : Int) : Option R :=
  bif (decide (t28 < t27)) then
    (bif (x != 0) then (bif ((Int.tmod n2 x) != 0) then
      (x0_ false)
    else
      (bif (x != 0) then (rec_ (IntKind.wrap .u64 (Int.tdiv n2 x)) t71 t81 t91 t27 (IntKind.wrap .i64 (t28 + 1)) x x1) else none)) else none)
  else
    (x1_ n2 t71 t81 t91)
noncomputable def prime_product.L2 {R : Type} (k : Nat) (x0_ : Bool → Option R) (x1_ : Int → List (Int × Int) → Int → Int → Option R) : Nat → Int → List (Int × Int) → Int → Int → Int → Int → Int → Int → Option R
  | 0, _, _, _, _, _, _, _, _ => none
  | m + 1, n2, t71, t81, t91, t27, t28, x, x1 => prime_product.B2 k x0_ x1_ (prime_product.L2 k x0_ x1_ m) n2 t71 t81 t91 t27 t28 x x1
noncomputable def prime_product.B0 {R : Type} (k : Nat) (x0_ : Bool → Option R) (x1_ : Int → Option R) (rec_ : Int → List (Int × Int) → Int → Int → Option R) (n1 : Int) (t7 : List (Int × Int)) (t8 : Int) (t9 : Int) : Option R :=
  bif (decide (t9 < t8)) then
    (bif (decide (0 ≤ t9) && decide (t9 < (t7.length : Int))) then (bif (decide (((t7.getD t9.toNat (0, 0)).1) < 2)) then
      (x0_ false)
    else
      (bif (decide (((t7.getD t9.toNat (0, 0)).2) < 1)) then
        (x0_ false)
      else
        (bif (decide (((t7.getD t9.toNat (0, 0)).2) > 63)) then
          (x0_ false)
        else
          (prime_product.L2 k (fun t4 =>
            x0_ t4) (fun n3 t72 t82 t92 =>
            rec_ n3 t72 t82 (IntKind.wrap .i64 (t92 + 1))) k n1 t7 t8 t9 ((t7.getD t9.toNat (0, 0)).2) 0 ((t7.getD t9.toNat (0, 0)).1) ((t7.getD t9.toNat (0, 0)).2))))) else none)
  else
    (x1_ n1)
noncomputable def prime_product.L0 {R : Type} (k : Nat) (x0_ : Bool → Option R) (x1_ : Int → Option R) : Nat → Int → List (Int × Int) → Int → Int → Option R
  | 0, _, _, _, _ => none
  | m + 1, n1, t7, t8, t9 => prime_product.B0 k x0_ x1_ (prime_product.L0 k x0_ x1_ m) n1 t7 t8 t9
noncomputable def prime_product.f {R : Type} : Nat → (List (Int × Int)) → Int → (Bool → Option R) → Option R
  | 0, _, _, _ => none
  | k + 1, l, n, ret =>
    prime_product.L0 k (fun t41 =>
      ret t41) (fun n4 =>
      ret (n4 == 1)) k n l (l.length : Int) 0
noncomputable def prime_product.T : List (Entry Try.prog Cx pr) := []
abbrev prime_product.s2 : Sh := ⟨[u, .one (.int .u64), u, u, u, u, .one (.ptr0 0 0), .one (.vsl tPart), .one (.int .i64), .one (.int .i64), u, u, u, u, u, u, u, u, u, u, u, u, u, u, u, u, u, .one (.int .i64), .one (.int .i64), u, u, u, u, u, u, u, u, u, u, u, u, u, u], [.box tPart [.int .u64, .int .i64]], []⟩
abbrev prime_product.e2_0 : Sh := ⟨[u, u, u, u, .one (.bool), u, u, u, u, u, u, u, u, u, u, u, u, u, u, u, u, u, u, u, u, u, u, u, u, u, u, u, u, u, u, u, u, u, u, u, u, u, u], [], []⟩
abbrev prime_product.e2_1 : Sh := ⟨[u, .one (.int .u64), u, u, u, u, u, .one (.vsl tPart), .one (.int .i64), .one (.int .i64), u, u, u, u, u, u, u, u, u, u, u, u, u, u, u, u, u, u, u, u, u, u, u, u, u, u, u, u, u, u, u, u, u], [], []⟩
noncomputable def prime_product.P2 {R : Type} (k : Nat) (K : Ex → St → Option R) (rec_ : prime_product.s2.den → Option R) (a : prime_product.s2.den) : Option R := prime_product.B2 k (fun y0 => K .ret (prime_product.e2_0.enc (((), (), (), (), y0, (), (), (), (), (), (), (), (), (), (), (), (), (), (), (), (), (), (), (), (), (), (), (), (), (), (), (), (), (), (), (), (), (), (), (), (), (), (), ()), ()))) (fun y0 y1 y2 y3 => K (.exit 2) (prime_product.e2_1.enc (((), y0, (), (), (), (), (), y1, y2, y3, (), (), (), (), (), (), (), (), (), (), (), (), (), (), (), (), (), (), (), (), (), (), (), (), (), (), (), (), (), (), (), (), (), ()), ()))) (fun v0 v1 v2 v3 v4 v5 v6 v7 => rec_ (((), v0, (), (), (), (), (), v1, v2, v3, (), (), (), (), (), (), (), (), (), (), (), (), (), (), (), (), (), v4, v5, (), (), (), (), (), (), (), (), (), (), (), (), (), (), ()), ((v6, v7, ()), ()))) a.1.2.1 a.1.2.2.2.2.2.2.2.1 a.1.2.2.2.2.2.2.2.2.1 a.1.2.2.2.2.2.2.2.2.2.1 a.1.2.2.2.2.2.2.2.2.2.2.2.2.2.2.2.2.2.2.2.2.2.2.2.2.2.2.2.1 a.1.2.2.2.2.2.2.2.2.2.2.2.2.2.2.2.2.2.2.2.2.2.2.2.2.2.2.2.2.1 a.2.1.1 a.2.1.2.1
noncomputable def prime_product.Q2 {R : Type} (k : Nat) (K : Ex → St → Option R) (m : Nat) (a : prime_product.s2.den) : Option R := prime_product.L2 k (fun y0 => K .ret (prime_product.e2_0.enc (((), (), (), (), y0, (), (), (), (), (), (), (), (), (), (), (), (), (), (), (), (), (), (), (), (), (), (), (), (), (), (), (), (), (), (), (), (), (), (), (), (), (), (), ()), ()))) (fun y0 y1 y2 y3 => K (.exit 2) (prime_product.e2_1.enc (((), y0, (), (), (), (), (), y1, y2, y3, (), (), (), (), (), (), (), (), (), (), (), (), (), (), (), (), (), (), (), (), (), (), (), (), (), (), (), (), (), (), (), (), (), ()), ()))) m a.1.2.1 a.1.2.2.2.2.2.2.2.1 a.1.2.2.2.2.2.2.2.2.1 a.1.2.2.2.2.2.2.2.2.2.1 a.1.2.2.2.2.2.2.2.2.2.2.2.2.2.2.2.2.2.2.2.2.2.2.2.2.2.2.2.1 a.1.2.2.2.2.2.2.2.2.2.2.2.2.2.2.2.2.2.2.2.2.2.2.2.2.2.2.2.2.1 a.2.1.1 a.2.1.2.1
noncomputable def prime_product.H2 {R : Type} (k : Nat) (st : St) (K : Ex → St → Option R) : Option R := hookL (fun st K => aCode Cx 53 (callT k prime_product.T) k (lc Try.f53 2) 2 st K) (Cx.hint 53 2) k prime_product.s2.dec (prime_product.Q2 k) st K
theorem prime_product.h2 {R : Type} (k : Nat) (st : St) (K : Ex → St → Option R) : prime_product.H2 k st K = aCode Cx 53 (callT k prime_product.T) k (.loop (lc Try.f53 2)) 2 st K :=
  hookL_eq Sh.dec_ok (Φ := prime_product.P2 k) (fun K a => rfl) (fun K m a => rfl) (fun K m a => loop_step (hookOf []) (allL (l' := []) (by kernel_rfl) trivial) K m _ (by kernel_rfl)) st K
abbrev prime_product.s0 : Sh := ⟨[u, .one (.int .u64), u, u, u, u, u, .one (.vsl tPart), .one (.int .i64), .one (.int .i64), u, u, u, u, u, u, u, u, u, u, u, u, u, u, u, u, u, u, u, u, u, u, u, u, u, u, u, u, u, u, u, u, u], [], []⟩
abbrev prime_product.e0_0 : Sh := ⟨[u, u, u, u, .one (.bool), u, u, u, u, u, u, u, u, u, u, u, u, u, u, u, u, u, u, u, u, u, u, u, u, u, u, u, u, u, u, u, u, u, u, u, u, u, u], [], []⟩
abbrev prime_product.e0_1 : Sh := ⟨[u, .one (.int .u64), u, u, u, u, u, u, u, u, u, u, u, u, u, u, u, u, u, u, u, u, u, u, u, u, u, u, u, u, u, u, u, u, u, u, u, u, u, u, u, u, u], [], []⟩
noncomputable def prime_product.P0 {R : Type} (k : Nat) (K : Ex → St → Option R) (rec_ : prime_product.s0.den → Option R) (a : prime_product.s0.den) : Option R := prime_product.B0 k (fun y0 => K .ret (prime_product.e0_0.enc (((), (), (), (), y0, (), (), (), (), (), (), (), (), (), (), (), (), (), (), (), (), (), (), (), (), (), (), (), (), (), (), (), (), (), (), (), (), (), (), (), (), (), (), ()), ()))) (fun y0 => K (.exit 0) (prime_product.e0_1.enc (((), y0, (), (), (), (), (), (), (), (), (), (), (), (), (), (), (), (), (), (), (), (), (), (), (), (), (), (), (), (), (), (), (), (), (), (), (), (), (), (), (), (), (), ()), ()))) (fun v0 v1 v2 v3 => rec_ (((), v0, (), (), (), (), (), v1, v2, v3, (), (), (), (), (), (), (), (), (), (), (), (), (), (), (), (), (), (), (), (), (), (), (), (), (), (), (), (), (), (), (), (), (), ()), ())) a.1.2.1 a.1.2.2.2.2.2.2.2.1 a.1.2.2.2.2.2.2.2.2.1 a.1.2.2.2.2.2.2.2.2.2.1
noncomputable def prime_product.Q0 {R : Type} (k : Nat) (K : Ex → St → Option R) (m : Nat) (a : prime_product.s0.den) : Option R := prime_product.L0 k (fun y0 => K .ret (prime_product.e0_0.enc (((), (), (), (), y0, (), (), (), (), (), (), (), (), (), (), (), (), (), (), (), (), (), (), (), (), (), (), (), (), (), (), (), (), (), (), (), (), (), (), (), (), (), (), ()), ()))) (fun y0 => K (.exit 0) (prime_product.e0_1.enc (((), y0, (), (), (), (), (), (), (), (), (), (), (), (), (), (), (), (), (), (), (), (), (), (), (), (), (), (), (), (), (), (), (), (), (), (), (), (), (), (), (), (), (), ()), ()))) m a.1.2.1 a.1.2.2.2.2.2.2.2.1 a.1.2.2.2.2.2.2.2.2.1 a.1.2.2.2.2.2.2.2.2.2.1
noncomputable def prime_product.H0 {R : Type} (k : Nat) (st : St) (K : Ex → St → Option R) : Option R := hookL (fun st K => aCode Cx 53 (callT k prime_product.T) k (lc Try.f53 0) 0 st K) (Cx.hint 53 0) k prime_product.s0.dec (prime_product.Q0 k) st K
theorem prime_product.h0 {R : Type} (k : Nat) (st : St) (K : Ex → St → Option R) : prime_product.H0 k st K = aCode Cx 53 (callT k prime_product.T) k (.loop (lc Try.f53 0)) 0 st K :=
  hookL_eq Sh.dec_ok (Φ := prime_product.P0 k) (fun K a => rfl) (fun K m a => rfl) (fun K m a => loop_step (hookOf [(2, prime_product.H2 k)]) (allL (l' := [(2, lc Try.f53 2)]) (by kernel_rfl) ⟨prime_product.h2 k, trivial⟩) K m _ (by kernel_rfl)) st K
abbrev prime_product.as : List AS := [.ty (.sl tPart), .ty (.int .u64)]
abbrev prime_product.hs : List SS := []
abbrev prime_product.rts : List CV := []
abbrev prime_product.rs : VS := .one (.bool)
noncomputable def prime_product.g : Nat → {R : Type} → HA prime_product.as × HS prime_product.hs → (prime_product.rs.den → Option R) → Option R := fun k {R} a ret => prime_product.f k a.1.1 a.1.2.1 (fun y0 => ret y0)
noncomputable def prime_product.E : Entry Try.prog Cx pr where
  id := 53
  args := prime_product.as
  heap := prime_product.hs
  roots := prime_product.rts
  res := prime_product.rs
  f := prime_product.g
  ok := entry_ok (args := prime_product.as) (heap := prime_product.hs) (roots := prime_product.rts) (res := prime_product.rs) (f := prime_product.g) rfl Try.func53 prime_product.T rfl (fun a K => rfl) (fun k {R} a K => fun_step (c := (Try.f53.body).getD .skip) (by kernel_rfl) (hookOf [(0, prime_product.H0 k)]) (allL (l' := [(0, lc Try.f53 0)]) (by kernel_rfl) ⟨prime_product.h0 k, trivial⟩) _ K (by kernel_rfl))

/-! ### affidavit/prime.formed: function 41 -/
noncomputable def prime_formed.B0 {R : Type} (k : Nat) (x0_ : Bool → Option R) (x1_ : Int → Int → List (Int × Int) → Option R) (rec_ : Int → Int → Int → List (Int × Int) → Option R) (i : Int) (x1 : Int) (x2 : Int) (x3 : List (Int × Int)) : Option R :=
  bif (decide (i < (x3.length : Int))) then
    (bif (decide (0 ≤ (IntKind.wrap .i64 (i - 1))) && decide ((IntKind.wrap .i64 (i - 1)) < (x3.length : Int))) then (bif (decide (0 ≤ i) && decide (i < (x3.length : Int))) then (bif (decide (((x3.getD (IntKind.wrap .i64 (i - 1)).toNat (0, 0)).1) ≥ (x3.getD i.toNat (0, 0)).1)) then
      (x0_ false)
    else
      (rec_ (IntKind.wrap .i64 (i + 1)) x1 x2 x3)) else none) else none)
  else
    (x1_ x1 x2 x3)
noncomputable def prime_formed.L0 {R : Type} (k : Nat) (x0_ : Bool → Option R) (x1_ : Int → Int → List (Int × Int) → Option R) : Nat → Int → Int → Int → List (Int × Int) → Option R
  | 0, _, _, _, _ => none
  | m + 1, i, x1, x2, x3 => prime_formed.B0 k x0_ x1_ (prime_formed.L0 k x0_ x1_ m) i x1 x2 x3
noncomputable def prime_formed.f {R : Type} : Nat → (Int × Int × List (Int × Int)) → (Bool → Option R) → Option R
  | 0, _, _ => none
  | k + 1, x, ret =>
    bif (decide (x.1 ≤ 2)) then
      (ret false)
    else
      (bif (decide (x.1 ≥ 9223372036854775808)) then
        (ret false)
      else
        (bif (decide (x.2.1 < 1)) then
          (ret false)
        else
          (bif (decide (x.2.1 ≥ x.1)) then
            (ret false)
          else
            (bif (decide ((x.2.2.length : Int) < 1)) then
              (ret false)
            else
              (bif (decide ((x.2.2.length : Int) > 20)) then
                (ret false)
              else
                (prime_formed.L0 k (fun t2 =>
                  ret t2) (fun x4 x5 x6 =>
                  prime_product.f k x6 (IntKind.wrap .u64 (x4 - 1)) (fun b =>
                    ret b)) k 1 x.1 x.2.1 x.2.2))))))
noncomputable def prime_formed.T : List (Entry Try.prog Cx pr) := [prime_product.E]
abbrev prime_formed.s0 : Sh := ⟨[u, .one (.ptr0 0 0), u, .one (.int .i64), u, u, u, u, u, u, u, u, u, u, u, u, u, u, u, u, u, u, u, u, u, u, u, u, u, u, u, u, u, u, u, u, u, u, u, u, u, u, u, u, u, u, u, u, u, u, u, u, u, u, u, u, u, u, u, u, u, u, u], [.box tProof [.int .u64, .int .u64, .vsl tPart]], []⟩
abbrev prime_formed.e0_0 : Sh := ⟨[u, u, .one (.bool), u, u, u, u, u, u, u, u, u, u, u, u, u, u, u, u, u, u, u, u, u, u, u, u, u, u, u, u, u, u, u, u, u, u, u, u, u, u, u, u, u, u, u, u, u, u, u, u, u, u, u, u, u, u, u, u, u, u, u, u], [], []⟩
abbrev prime_formed.e0_1 : Sh := ⟨[u, .one (.ptr0 0 0), u, u, u, u, u, u, u, u, u, u, u, u, u, u, u, u, u, u, u, u, u, u, u, u, u, u, u, u, u, u, u, u, u, u, u, u, u, u, u, u, u, u, u, u, u, u, u, u, u, u, u, u, u, u, u, u, u, u, u, u, u], [.box tProof [.int .u64, .int .u64, .vsl tPart]], []⟩
noncomputable def prime_formed.P0 {R : Type} (k : Nat) (K : Ex → St → Option R) (rec_ : prime_formed.s0.den → Option R) (a : prime_formed.s0.den) : Option R := prime_formed.B0 k (fun y0 => K .ret (prime_formed.e0_0.enc (((), (), y0, (), (), (), (), (), (), (), (), (), (), (), (), (), (), (), (), (), (), (), (), (), (), (), (), (), (), (), (), (), (), (), (), (), (), (), (), (), (), (), (), (), (), (), (), (), (), (), (), (), (), (), (), (), (), (), (), (), (), (), (), ()), ()))) (fun y0 y1 y2 => K (.exit 0) (prime_formed.e0_1.enc (((), (), (), (), (), (), (), (), (), (), (), (), (), (), (), (), (), (), (), (), (), (), (), (), (), (), (), (), (), (), (), (), (), (), (), (), (), (), (), (), (), (), (), (), (), (), (), (), (), (), (), (), (), (), (), (), (), (), (), (), (), (), (), ()), ((y0, y1, y2, ()), ())))) (fun v0 v1 v2 v3 => rec_ (((), (), (), v0, (), (), (), (), (), (), (), (), (), (), (), (), (), (), (), (), (), (), (), (), (), (), (), (), (), (), (), (), (), (), (), (), (), (), (), (), (), (), (), (), (), (), (), (), (), (), (), (), (), (), (), (), (), (), (), (), (), (), (), ()), ((v1, v2, v3, ()), ()))) a.1.2.2.2.1 a.2.1.1 a.2.1.2.1 a.2.1.2.2.1
noncomputable def prime_formed.Q0 {R : Type} (k : Nat) (K : Ex → St → Option R) (m : Nat) (a : prime_formed.s0.den) : Option R := prime_formed.L0 k (fun y0 => K .ret (prime_formed.e0_0.enc (((), (), y0, (), (), (), (), (), (), (), (), (), (), (), (), (), (), (), (), (), (), (), (), (), (), (), (), (), (), (), (), (), (), (), (), (), (), (), (), (), (), (), (), (), (), (), (), (), (), (), (), (), (), (), (), (), (), (), (), (), (), (), (), ()), ()))) (fun y0 y1 y2 => K (.exit 0) (prime_formed.e0_1.enc (((), (), (), (), (), (), (), (), (), (), (), (), (), (), (), (), (), (), (), (), (), (), (), (), (), (), (), (), (), (), (), (), (), (), (), (), (), (), (), (), (), (), (), (), (), (), (), (), (), (), (), (), (), (), (), (), (), (), (), (), (), (), (), ()), ((y0, y1, y2, ()), ())))) m a.1.2.2.2.1 a.2.1.1 a.2.1.2.1 a.2.1.2.2.1
noncomputable def prime_formed.H0 {R : Type} (k : Nat) (st : St) (K : Ex → St → Option R) : Option R := hookL (fun st K => aCode Cx 41 (callT k prime_formed.T) k (lc Try.f41 0) 0 st K) (Cx.hint 41 0) k prime_formed.s0.dec (prime_formed.Q0 k) st K
theorem prime_formed.h0 {R : Type} (k : Nat) (st : St) (K : Ex → St → Option R) : prime_formed.H0 k st K = aCode Cx 41 (callT k prime_formed.T) k (.loop (lc Try.f41 0)) 0 st K :=
  hookL_eq Sh.dec_ok (Φ := prime_formed.P0 k) (fun K a => rfl) (fun K m a => rfl) (fun K m a => loop_step (hookOf []) (allL (l' := []) (by kernel_rfl) trivial) K m _ (by kernel_rfl)) st K
abbrev prime_formed.as : List AS := [.ty tProof]
abbrev prime_formed.hs : List SS := []
abbrev prime_formed.rts : List CV := []
abbrev prime_formed.rs : VS := .one (.bool)
noncomputable def prime_formed.g : Nat → {R : Type} → HA prime_formed.as × HS prime_formed.hs → (prime_formed.rs.den → Option R) → Option R := fun k {R} a ret => prime_formed.f k a.1.1 (fun y0 => ret y0)
noncomputable def prime_formed.E : Entry Try.prog Cx pr where
  id := 41
  args := prime_formed.as
  heap := prime_formed.hs
  roots := prime_formed.rts
  res := prime_formed.rs
  f := prime_formed.g
  ok := entry_ok (args := prime_formed.as) (heap := prime_formed.hs) (roots := prime_formed.rts) (res := prime_formed.rs) (f := prime_formed.g) rfl Try.func41 prime_formed.T rfl (fun a K => rfl) (fun k {R} a K => fun_step (c := (Try.f41.body).getD .skip) (by kernel_rfl) (hookOf [(0, prime_formed.H0 k)]) (allL (l' := [(0, lc Try.f41 0)]) (by kernel_rfl) ⟨prime_formed.h0 k, trivial⟩) _ K (by kernel_rfl))

/-! ### affidavit/field.Right: function 52 -/
noncomputable def field_Right.f {R : Type} : Nat → Int → (Bool → Option R) → Option R
  | 0, _, _ => none
  | k + 1, p, ret =>
    bif (decide (p ≥ 2)) then
      (ret (decide (p < 9223372036854775808)))
    else
      (ret false)
noncomputable def field_Right.T : List (Entry Try.prog Cx pr) := []
abbrev field_Right.as : List AS := [.ty (.int .u64)]
abbrev field_Right.hs : List SS := []
abbrev field_Right.rts : List CV := []
abbrev field_Right.rs : VS := .one (.bool)
noncomputable def field_Right.g : Nat → {R : Type} → HA field_Right.as × HS field_Right.hs → (field_Right.rs.den → Option R) → Option R := fun k {R} a ret => field_Right.f k a.1.1 (fun y0 => ret y0)
noncomputable def field_Right.E : Entry Try.prog Cx pr where
  id := 52
  args := field_Right.as
  heap := field_Right.hs
  roots := field_Right.rts
  res := field_Right.rs
  f := field_Right.g
  ok := entry_ok (args := field_Right.as) (heap := field_Right.hs) (roots := field_Right.rts) (res := field_Right.rs) (f := field_Right.g) rfl Try.func52 field_Right.T rfl (fun a K => rfl) (fun k {R} a K => fun_step (c := (Try.f52.body).getD .skip) (by kernel_rfl) (hookOf []) (allL (l' := []) (by kernel_rfl) trivial) _ K (by kernel_rfl))

/-! ### affidavit/field.Has: function 39 -/
noncomputable def field_Has.B0 {R : Type} (k : Nat) (x0_ : Bool → Option R) (x1_ : Int → Option R) (rec_ : Int → List Int → Int → Int → Option R) (p1 : Int) (t7 : List Int) (t8 : Int) (t9 : Int) : Option R :=
  bif (decide (t9 < t8)) then
    (bif (decide (0 ≤ t9) && decide (t9 < (t7.length : Int))) then (bif (decide ((t7.getD t9.toNat (0 : Int)) ≥ p1)) then
      (x0_ false)
    else
      (rec_ p1 t7 t8 (IntKind.wrap .i64 (t9 + 1)))) else none)
  else
    (x1_ p1)
noncomputable def field_Has.L0 {R : Type} (k : Nat) (x0_ : Bool → Option R) (x1_ : Int → Option R) : Nat → Int → List Int → Int → Int → Option R
  | 0, _, _, _, _ => none
  | m + 1, p1, t7, t8, t9 => field_Has.B0 k x0_ x1_ (field_Has.L0 k x0_ x1_ m) p1 t7 t8 t9
noncomputable def field_Has.f {R : Type} : Nat → Int → (List Int) → (Bool → Option R) → Option R
  | 0, _, _, _ => none
  | k + 1, p, l, ret =>
    field_Has.L0 k (fun t4 =>
      ret t4) (fun p2 =>
      field_Right.f k p2 (fun b =>
        ret b)) k p l (l.length : Int) 0
noncomputable def field_Has.T : List (Entry Try.prog Cx pr) := [field_Right.E]
abbrev field_Has.s0 : Sh := ⟨[.one (.int .u64), u, u, u, u, u, u, .one (.vsl (.int .u64)), .one (.int .i64), .one (.int .i64), u, u, u, u, u, u, u, u, u], [], []⟩
abbrev field_Has.e0_0 : Sh := ⟨[u, u, u, u, .one (.bool), u, u, u, u, u, u, u, u, u, u, u, u, u, u], [], []⟩
abbrev field_Has.e0_1 : Sh := ⟨[.one (.int .u64), u, u, u, u, u, u, u, u, u, u, u, u, u, u, u, u, u, u], [], []⟩
noncomputable def field_Has.P0 {R : Type} (k : Nat) (K : Ex → St → Option R) (rec_ : field_Has.s0.den → Option R) (a : field_Has.s0.den) : Option R := field_Has.B0 k (fun y0 => K .ret (field_Has.e0_0.enc (((), (), (), (), y0, (), (), (), (), (), (), (), (), (), (), (), (), (), (), ()), ()))) (fun y0 => K (.exit 0) (field_Has.e0_1.enc ((y0, (), (), (), (), (), (), (), (), (), (), (), (), (), (), (), (), (), (), ()), ()))) (fun v0 v1 v2 v3 => rec_ ((v0, (), (), (), (), (), (), v1, v2, v3, (), (), (), (), (), (), (), (), (), ()), ())) a.1.1 a.1.2.2.2.2.2.2.2.1 a.1.2.2.2.2.2.2.2.2.1 a.1.2.2.2.2.2.2.2.2.2.1
noncomputable def field_Has.Q0 {R : Type} (k : Nat) (K : Ex → St → Option R) (m : Nat) (a : field_Has.s0.den) : Option R := field_Has.L0 k (fun y0 => K .ret (field_Has.e0_0.enc (((), (), (), (), y0, (), (), (), (), (), (), (), (), (), (), (), (), (), (), ()), ()))) (fun y0 => K (.exit 0) (field_Has.e0_1.enc ((y0, (), (), (), (), (), (), (), (), (), (), (), (), (), (), (), (), (), (), ()), ()))) m a.1.1 a.1.2.2.2.2.2.2.2.1 a.1.2.2.2.2.2.2.2.2.1 a.1.2.2.2.2.2.2.2.2.2.1
noncomputable def field_Has.H0 {R : Type} (k : Nat) (st : St) (K : Ex → St → Option R) : Option R := hookL (fun st K => aCode Cx 39 (callT k field_Has.T) k (lc Try.f39 0) 0 st K) (Cx.hint 39 0) k field_Has.s0.dec (field_Has.Q0 k) st K
theorem field_Has.h0 {R : Type} (k : Nat) (st : St) (K : Ex → St → Option R) : field_Has.H0 k st K = aCode Cx 39 (callT k field_Has.T) k (.loop (lc Try.f39 0)) 0 st K :=
  hookL_eq Sh.dec_ok (Φ := field_Has.P0 k) (fun K a => rfl) (fun K m a => rfl) (fun K m a => loop_step (hookOf []) (allL (l' := []) (by kernel_rfl) trivial) K m _ (by kernel_rfl)) st K
abbrev field_Has.as : List AS := [.ty (.int .u64), .ty (.sl (.int .u64))]
abbrev field_Has.hs : List SS := []
abbrev field_Has.rts : List CV := []
abbrev field_Has.rs : VS := .one (.bool)
noncomputable def field_Has.g : Nat → {R : Type} → HA field_Has.as × HS field_Has.hs → (field_Has.rs.den → Option R) → Option R := fun k {R} a ret => field_Has.f k a.1.1 a.1.2.1 (fun y0 => ret y0)
noncomputable def field_Has.E : Entry Try.prog Cx pr where
  id := 39
  args := field_Has.as
  heap := field_Has.hs
  roots := field_Has.rts
  res := field_Has.rs
  f := field_Has.g
  ok := entry_ok (args := field_Has.as) (heap := field_Has.hs) (roots := field_Has.rts) (res := field_Has.rs) (f := field_Has.g) rfl Try.func39 field_Has.T rfl (fun a K => rfl) (fun k {R} a K => fun_step (c := (Try.f39.body).getD .skip) (by kernel_rfl) (hookOf [(0, field_Has.H0 k)]) (allL (l' := [(0, lc Try.f39 0)]) (by kernel_rfl) ⟨field_Has.h0 k, trivial⟩) _ K (by kernel_rfl))

/-! ### math/bits.Mul64: function 50 -/
noncomputable def bits_Mul64.f {R : Type} : Nat → Int → Int → (Int → Int → Option R) → Option R
  | 0, _, _, _ => none
  | k + 1, x, y, ret =>
    bif decide (0 ≤ (32 : Int)) then (bif decide (0 ≤ (32 : Int)) then (bif decide (0 ≤ (32 : Int)) then (bif decide (0 ≤ (32 : Int)) then (bif decide (0 ≤ (32 : Int)) then (ret (IntKind.wrap .u64 ((IntKind.wrap .u64 ((IntKind.wrap .u64 ((Int.fdiv x (2 ^ (min (32 : Int).toNat (IntKind.bits .u64)))) * (Int.fdiv y (2 ^ (min (32 : Int).toNat (IntKind.bits .u64)))))) + (Int.fdiv (IntKind.wrap .u64 ((IntKind.wrap .u64 ((Int.fdiv x (2 ^ (min (32 : Int).toNat (IntKind.bits .u64)))) * (IntKind.wrap .u64 (BitVec.ofInt (IntKind.bits .u64) y &&& BitVec.ofInt (IntKind.bits .u64) 4294967295).toNat))) + (Int.fdiv (IntKind.wrap .u64 ((IntKind.wrap .u64 (BitVec.ofInt (IntKind.bits .u64) x &&& BitVec.ofInt (IntKind.bits .u64) 4294967295).toNat) * (IntKind.wrap .u64 (BitVec.ofInt (IntKind.bits .u64) y &&& BitVec.ofInt (IntKind.bits .u64) 4294967295).toNat))) (2 ^ (min (32 : Int).toNat (IntKind.bits .u64)))))) (2 ^ (min (32 : Int).toNat (IntKind.bits .u64)))))) + (Int.fdiv (IntKind.wrap .u64 ((IntKind.wrap .u64 (BitVec.ofInt (IntKind.bits .u64) (IntKind.wrap .u64 ((IntKind.wrap .u64 ((Int.fdiv x (2 ^ (min (32 : Int).toNat (IntKind.bits .u64)))) * (IntKind.wrap .u64 (BitVec.ofInt (IntKind.bits .u64) y &&& BitVec.ofInt (IntKind.bits .u64) 4294967295).toNat))) + (Int.fdiv (IntKind.wrap .u64 ((IntKind.wrap .u64 (BitVec.ofInt (IntKind.bits .u64) x &&& BitVec.ofInt (IntKind.bits .u64) 4294967295).toNat) * (IntKind.wrap .u64 (BitVec.ofInt (IntKind.bits .u64) y &&& BitVec.ofInt (IntKind.bits .u64) 4294967295).toNat))) (2 ^ (min (32 : Int).toNat (IntKind.bits .u64)))))) &&& BitVec.ofInt (IntKind.bits .u64) 4294967295).toNat) + (IntKind.wrap .u64 ((IntKind.wrap .u64 (BitVec.ofInt (IntKind.bits .u64) x &&& BitVec.ofInt (IntKind.bits .u64) 4294967295).toNat) * (Int.fdiv y (2 ^ (min (32 : Int).toNat (IntKind.bits .u64)))))))) (2 ^ (min (32 : Int).toNat (IntKind.bits .u64)))))) (IntKind.wrap .u64 (x * y))) else none) else none) else none) else none) else none
noncomputable def bits_Mul64.T : List (Entry Try.prog Cx pr) := []
abbrev bits_Mul64.as : List AS := [.ty (.int .u64), .ty (.int .u64)]
abbrev bits_Mul64.hs : List SS := []
abbrev bits_Mul64.rts : List CV := []
abbrev bits_Mul64.rs : VS := .tup [(false, [.int .u64]), (false, [.int .u64])]
noncomputable def bits_Mul64.g : Nat → {R : Type} → HA bits_Mul64.as × HS bits_Mul64.hs → (bits_Mul64.rs.den → Option R) → Option R := fun k {R} a ret => bits_Mul64.f k a.1.1 a.1.2.1 (fun y0 y1 => ret ((y0, ()), (y1, ()), ()))
noncomputable def bits_Mul64.E : Entry Try.prog Cx pr where
  id := 50
  args := bits_Mul64.as
  heap := bits_Mul64.hs
  roots := bits_Mul64.rts
  res := bits_Mul64.rs
  f := bits_Mul64.g
  ok := entry_ok (args := bits_Mul64.as) (heap := bits_Mul64.hs) (roots := bits_Mul64.rts) (res := bits_Mul64.rs) (f := bits_Mul64.g) rfl Try.func50 bits_Mul64.T rfl (fun a K => rfl) (fun k {R} a K => fun_step (c := (Try.f50.body).getD .skip) (by kernel_rfl) (hookOf []) (allL (l' := []) (by kernel_rfl) trivial) _ K (by kernel_rfl))

/-! ### math/bits.Len64: function 64 -/
noncomputable def bits_Len64.f {R : Type} : Nat → Int → (Int → Option R) → Option R
  | 0, _, _ => none
  | k + 1, x, ret =>
    bif (decide (x ≥ 4294967296)) then
      (bif decide (0 ≤ (32 : Int)) then (bif (decide ((Int.fdiv x (2 ^ (min (32 : Int).toNat (IntKind.bits .u64)))) ≥ 65536)) then
        (bif decide (0 ≤ (16 : Int)) then (bif (decide ((Int.fdiv (Int.fdiv x (2 ^ (min (32 : Int).toNat (IntKind.bits .u64)))) (2 ^ (min (16 : Int).toNat (IntKind.bits .u64)))) ≥ 256)) then
          (bif decide (0 ≤ (8 : Int)) then (bif (decide (0 ≤ (IntKind.wrap .u8 (Int.fdiv (Int.fdiv (Int.fdiv x (2 ^ (min (32 : Int).toNat (IntKind.bits .u64)))) (2 ^ (min (16 : Int).toNat (IntKind.bits .u64)))) (2 ^ (min (8 : Int).toNat (IntKind.bits .u64)))))) && decide ((IntKind.wrap .u8 (Int.fdiv (Int.fdiv (Int.fdiv x (2 ^ (min (32 : Int).toNat (IntKind.bits .u64)))) (2 ^ (min (16 : Int).toNat (IntKind.bits .u64)))) (2 ^ (min (8 : Int).toNat (IntKind.bits .u64))))) < (str0.size : Int))) then (ret (IntKind.wrap .i64 ((IntKind.wrap .i64 ((IntKind.wrap .i64 ((32 : Int) + 16)) + 8)) + (IntKind.wrap .i64 (Am.byteAt str0 (IntKind.wrap .u8 (Int.fdiv (Int.fdiv (Int.fdiv x (2 ^ (min (32 : Int).toNat (IntKind.bits .u64)))) (2 ^ (min (16 : Int).toNat (IntKind.bits .u64)))) (2 ^ (min (8 : Int).toNat (IntKind.bits .u64))))).toNat))))) else none) else none)
        else
          (bif (decide (0 ≤ (IntKind.wrap .u8 (Int.fdiv (Int.fdiv x (2 ^ (min (32 : Int).toNat (IntKind.bits .u64)))) (2 ^ (min (16 : Int).toNat (IntKind.bits .u64)))))) && decide ((IntKind.wrap .u8 (Int.fdiv (Int.fdiv x (2 ^ (min (32 : Int).toNat (IntKind.bits .u64)))) (2 ^ (min (16 : Int).toNat (IntKind.bits .u64))))) < (str0.size : Int))) then (ret (IntKind.wrap .i64 ((IntKind.wrap .i64 ((32 : Int) + 16)) + (IntKind.wrap .i64 (Am.byteAt str0 (IntKind.wrap .u8 (Int.fdiv (Int.fdiv x (2 ^ (min (32 : Int).toNat (IntKind.bits .u64)))) (2 ^ (min (16 : Int).toNat (IntKind.bits .u64))))).toNat))))) else none)) else none)
      else
        (bif (decide ((Int.fdiv x (2 ^ (min (32 : Int).toNat (IntKind.bits .u64)))) ≥ 256)) then
          (bif decide (0 ≤ (8 : Int)) then (bif (decide (0 ≤ (IntKind.wrap .u8 (Int.fdiv (Int.fdiv x (2 ^ (min (32 : Int).toNat (IntKind.bits .u64)))) (2 ^ (min (8 : Int).toNat (IntKind.bits .u64)))))) && decide ((IntKind.wrap .u8 (Int.fdiv (Int.fdiv x (2 ^ (min (32 : Int).toNat (IntKind.bits .u64)))) (2 ^ (min (8 : Int).toNat (IntKind.bits .u64))))) < (str0.size : Int))) then (ret (IntKind.wrap .i64 ((IntKind.wrap .i64 ((32 : Int) + 8)) + (IntKind.wrap .i64 (Am.byteAt str0 (IntKind.wrap .u8 (Int.fdiv (Int.fdiv x (2 ^ (min (32 : Int).toNat (IntKind.bits .u64)))) (2 ^ (min (8 : Int).toNat (IntKind.bits .u64))))).toNat))))) else none) else none)
        else
          (bif (decide (0 ≤ (IntKind.wrap .u8 (Int.fdiv x (2 ^ (min (32 : Int).toNat (IntKind.bits .u64)))))) && decide ((IntKind.wrap .u8 (Int.fdiv x (2 ^ (min (32 : Int).toNat (IntKind.bits .u64))))) < (str0.size : Int))) then (ret (IntKind.wrap .i64 ((32 : Int) + (IntKind.wrap .i64 (Am.byteAt str0 (IntKind.wrap .u8 (Int.fdiv x (2 ^ (min (32 : Int).toNat (IntKind.bits .u64))))).toNat))))) else none))) else none)
    else
      (bif (decide (x ≥ 65536)) then
        (bif decide (0 ≤ (16 : Int)) then (bif (decide ((Int.fdiv x (2 ^ (min (16 : Int).toNat (IntKind.bits .u64)))) ≥ 256)) then
          (bif decide (0 ≤ (8 : Int)) then (bif (decide (0 ≤ (IntKind.wrap .u8 (Int.fdiv (Int.fdiv x (2 ^ (min (16 : Int).toNat (IntKind.bits .u64)))) (2 ^ (min (8 : Int).toNat (IntKind.bits .u64)))))) && decide ((IntKind.wrap .u8 (Int.fdiv (Int.fdiv x (2 ^ (min (16 : Int).toNat (IntKind.bits .u64)))) (2 ^ (min (8 : Int).toNat (IntKind.bits .u64))))) < (str0.size : Int))) then (ret (IntKind.wrap .i64 ((IntKind.wrap .i64 ((IntKind.wrap .i64 ((0 : Int) + 16)) + 8)) + (IntKind.wrap .i64 (Am.byteAt str0 (IntKind.wrap .u8 (Int.fdiv (Int.fdiv x (2 ^ (min (16 : Int).toNat (IntKind.bits .u64)))) (2 ^ (min (8 : Int).toNat (IntKind.bits .u64))))).toNat))))) else none) else none)
        else
          (bif (decide (0 ≤ (IntKind.wrap .u8 (Int.fdiv x (2 ^ (min (16 : Int).toNat (IntKind.bits .u64)))))) && decide ((IntKind.wrap .u8 (Int.fdiv x (2 ^ (min (16 : Int).toNat (IntKind.bits .u64))))) < (str0.size : Int))) then (ret (IntKind.wrap .i64 ((IntKind.wrap .i64 ((0 : Int) + 16)) + (IntKind.wrap .i64 (Am.byteAt str0 (IntKind.wrap .u8 (Int.fdiv x (2 ^ (min (16 : Int).toNat (IntKind.bits .u64))))).toNat))))) else none)) else none)
      else
        (bif (decide (x ≥ 256)) then
          (bif decide (0 ≤ (8 : Int)) then (bif (decide (0 ≤ (IntKind.wrap .u8 (Int.fdiv x (2 ^ (min (8 : Int).toNat (IntKind.bits .u64)))))) && decide ((IntKind.wrap .u8 (Int.fdiv x (2 ^ (min (8 : Int).toNat (IntKind.bits .u64))))) < (str0.size : Int))) then (ret (IntKind.wrap .i64 ((IntKind.wrap .i64 ((0 : Int) + 8)) + (IntKind.wrap .i64 (Am.byteAt str0 (IntKind.wrap .u8 (Int.fdiv x (2 ^ (min (8 : Int).toNat (IntKind.bits .u64))))).toNat))))) else none) else none)
        else
          (bif (decide (0 ≤ (IntKind.wrap .u8 x)) && decide ((IntKind.wrap .u8 x) < (str0.size : Int))) then (ret (IntKind.wrap .i64 ((0 : Int) + (IntKind.wrap .i64 (Am.byteAt str0 (IntKind.wrap .u8 x).toNat))))) else none)))
noncomputable def bits_Len64.T : List (Entry Try.prog Cx pr) := []
abbrev bits_Len64.as : List AS := [.ty (.int .u64)]
abbrev bits_Len64.hs : List SS := []
abbrev bits_Len64.rts : List CV := []
abbrev bits_Len64.rs : VS := .one (.int .i64)
noncomputable def bits_Len64.g : Nat → {R : Type} → HA bits_Len64.as × HS bits_Len64.hs → (bits_Len64.rs.den → Option R) → Option R := fun k {R} a ret => bits_Len64.f k a.1.1 (fun y0 => ret y0)
noncomputable def bits_Len64.E : Entry Try.prog Cx pr where
  id := 64
  args := bits_Len64.as
  heap := bits_Len64.hs
  roots := bits_Len64.rts
  res := bits_Len64.rs
  f := bits_Len64.g
  ok := entry_ok (args := bits_Len64.as) (heap := bits_Len64.hs) (roots := bits_Len64.rts) (res := bits_Len64.rs) (f := bits_Len64.g) rfl Try.func64 bits_Len64.T rfl (fun a K => rfl) (fun k {R} a K => fun_step (c := (Try.f64.body).getD .skip) (by kernel_rfl) (hookOf []) (allL (l' := []) (by kernel_rfl) trivial) _ K (by kernel_rfl))

/-! ### math/bits.LeadingZeros64: function 72 -/
noncomputable def bits_LeadingZeros64.f {R : Type} : Nat → Int → (Int → Option R) → Option R
  | 0, _, _ => none
  | k + 1, x, ret =>
    bits_Len64.f k x (fun n =>
      ret (IntKind.wrap .i64 ((64 : Int) - n)))
noncomputable def bits_LeadingZeros64.T : List (Entry Try.prog Cx pr) := [bits_Len64.E]
abbrev bits_LeadingZeros64.as : List AS := [.ty (.int .u64)]
abbrev bits_LeadingZeros64.hs : List SS := []
abbrev bits_LeadingZeros64.rts : List CV := []
abbrev bits_LeadingZeros64.rs : VS := .one (.int .i64)
noncomputable def bits_LeadingZeros64.g : Nat → {R : Type} → HA bits_LeadingZeros64.as × HS bits_LeadingZeros64.hs → (bits_LeadingZeros64.rs.den → Option R) → Option R := fun k {R} a ret => bits_LeadingZeros64.f k a.1.1 (fun y0 => ret y0)
noncomputable def bits_LeadingZeros64.E : Entry Try.prog Cx pr where
  id := 72
  args := bits_LeadingZeros64.as
  heap := bits_LeadingZeros64.hs
  roots := bits_LeadingZeros64.rts
  res := bits_LeadingZeros64.rs
  f := bits_LeadingZeros64.g
  ok := entry_ok (args := bits_LeadingZeros64.as) (heap := bits_LeadingZeros64.hs) (roots := bits_LeadingZeros64.rts) (res := bits_LeadingZeros64.rs) (f := bits_LeadingZeros64.g) rfl Try.func72 bits_LeadingZeros64.T rfl (fun a K => rfl) (fun k {R} a K => fun_step (c := (Try.f72.body).getD .skip) (by kernel_rfl) (hookOf []) (allL (l' := []) (by kernel_rfl) trivial) _ K (by kernel_rfl))

/-! ### math/bits.Div64: function 66 -/
noncomputable def bits_Div64.B0 {R : Type} (k : Nat) (x0_ : Int → Int → Int → Int → Int → Int → Int → Int → Option R) (rec_ : Int → Int → Int → Int → Int → Int → Int → Int → Int → Option R) (y1 : Int) (s : Int) (yn1 : Int) (yn0 : Int) (un32 : Int) (un1 : Int) (un0 : Int) (q1 : Int) (rhat : Int) : Option R :=
  bif (decide (q1 ≥ 4294967296)) then
    (bif (decide ((IntKind.wrap .u64 (rhat + yn1)) ≥ 4294967296)) then
      (x0_ y1 s yn1 yn0 un32 un1 un0 (IntKind.wrap .u64 (q1 - 1)))
    else
      (rec_ y1 s yn1 yn0 un32 un1 un0 (IntKind.wrap .u64 (q1 - 1)) (IntKind.wrap .u64 (rhat + yn1))))
  else
    (bif (decide ((IntKind.wrap .u64 (q1 * yn0)) > (IntKind.wrap .u64 ((IntKind.wrap .u64 ((4294967296 : Int) * rhat)) + un1)))) then
      (bif (decide ((IntKind.wrap .u64 (rhat + yn1)) ≥ 4294967296)) then
        (x0_ y1 s yn1 yn0 un32 un1 un0 (IntKind.wrap .u64 (q1 - 1)))
      else
        (rec_ y1 s yn1 yn0 un32 un1 un0 (IntKind.wrap .u64 (q1 - 1)) (IntKind.wrap .u64 (rhat + yn1))))
    else
      (x0_ y1 s yn1 yn0 un32 un1 un0 q1))
noncomputable def bits_Div64.L0 {R : Type} (k : Nat) (x0_ : Int → Int → Int → Int → Int → Int → Int → Int → Option R) : Nat → Int → Int → Int → Int → Int → Int → Int → Int → Int → Option R
  | 0, _, _, _, _, _, _, _, _, _ => none
  | m + 1, y1, s, yn1, yn0, un32, un1, un0, q1, rhat => bits_Div64.B0 k x0_ (bits_Div64.L0 k x0_ m) y1 s yn1 yn0 un32 un1 un0 q1 rhat
noncomputable def bits_Div64.B2 {R : Type} (k : Nat) (x0_ : Int → Int → Int → Int → Int → Int → Option R) (rec_ : Int → Int → Int → Int → Int → Int → Int → Int → Int → Option R) (y3 : Int) (s2 : Int) (yn12 : Int) (yn02 : Int) (un02 : Int) (q12 : Int) (rhat1 : Int) (un21 : Int) (q0 : Int) : Option R :=
  bif (decide (q0 ≥ 4294967296)) then
    (bif (decide ((IntKind.wrap .u64 (rhat1 + yn12)) ≥ 4294967296)) then
      (x0_ y3 s2 un02 q12 un21 (IntKind.wrap .u64 (q0 - 1)))
    else
      (rec_ y3 s2 yn12 yn02 un02 q12 (IntKind.wrap .u64 (rhat1 + yn12)) un21 (IntKind.wrap .u64 (q0 - 1))))
  else
    (bif (decide ((IntKind.wrap .u64 (q0 * yn02)) > (IntKind.wrap .u64 ((IntKind.wrap .u64 ((4294967296 : Int) * rhat1)) + un02)))) then
      (bif (decide ((IntKind.wrap .u64 (rhat1 + yn12)) ≥ 4294967296)) then
        (x0_ y3 s2 un02 q12 un21 (IntKind.wrap .u64 (q0 - 1)))
      else
        (rec_ y3 s2 yn12 yn02 un02 q12 (IntKind.wrap .u64 (rhat1 + yn12)) un21 (IntKind.wrap .u64 (q0 - 1))))
    else
      (x0_ y3 s2 un02 q12 un21 q0))
noncomputable def bits_Div64.L2 {R : Type} (k : Nat) (x0_ : Int → Int → Int → Int → Int → Int → Option R) : Nat → Int → Int → Int → Int → Int → Int → Int → Int → Int → Option R
  | 0, _, _, _, _, _, _, _, _, _ => none
  | m + 1, y3, s2, yn12, yn02, un02, q12, rhat1, un21, q0 => bits_Div64.B2 k x0_ (bits_Div64.L2 k x0_ m) y3 s2 yn12 yn02 un02 q12 rhat1 un21 q0
noncomputable def bits_Div64.f {R : Type} : Nat → Int → Int → Int → (Int → Int → Option R) → Option R
  | 0, _, _, _, _ => none
  | k + 1, hi, lo, y, ret =>
    bif (y == 0) then
      none
    else
      (bif (decide (y ≤ hi)) then
        none
      else
        (bif (hi == 0) then
          (bif (y != 0) then (bif (y != 0) then (ret (IntKind.wrap .u64 (Int.tdiv lo y)) (Int.tmod lo y)) else none) else none)
        else
          (bits_LeadingZeros64.f k y (fun n =>
            bif decide (0 ≤ (IntKind.wrap .u64 n)) then (bif decide (0 ≤ (32 : Int)) then (bif decide (0 ≤ (IntKind.wrap .u64 n)) then (bif decide (0 ≤ (IntKind.wrap .u64 ((64 : Int) - (IntKind.wrap .u64 n)))) then (bif decide (0 ≤ (IntKind.wrap .u64 n)) then (bif decide (0 ≤ (32 : Int)) then (bif ((Int.fdiv (IntKind.wrap .u64 (y * 2 ^ (min (IntKind.wrap .u64 n).toNat (IntKind.bits .u64)))) (2 ^ (min (32 : Int).toNat (IntKind.bits .u64)))) != 0) then (bits_Div64.L0 k (fun y2 s1 yn11 yn01 un321 un11 un01 q11 =>
              bif (yn11 != 0) then (bits_Div64.L2 k (fun y4 s3 un03 q13 un211 q01 =>
                bif decide (0 ≤ s3) then (ret (IntKind.wrap .u64 ((IntKind.wrap .u64 (q13 * 4294967296)) + q01)) (Int.fdiv (IntKind.wrap .u64 ((IntKind.wrap .u64 ((IntKind.wrap .u64 (un211 * 4294967296)) + un03)) - (IntKind.wrap .u64 (q01 * y4)))) (2 ^ (min s3.toNat (IntKind.bits .u64))))) else none) k y2 s1 yn11 yn01 un01 q11 (IntKind.wrap .u64 ((IntKind.wrap .u64 ((IntKind.wrap .u64 ((IntKind.wrap .u64 (un321 * 4294967296)) + un11)) - (IntKind.wrap .u64 (q11 * y2)))) - (IntKind.wrap .u64 ((IntKind.wrap .u64 (Int.tdiv (IntKind.wrap .u64 ((IntKind.wrap .u64 ((IntKind.wrap .u64 (un321 * 4294967296)) + un11)) - (IntKind.wrap .u64 (q11 * y2)))) yn11)) * yn11)))) (IntKind.wrap .u64 ((IntKind.wrap .u64 ((IntKind.wrap .u64 (un321 * 4294967296)) + un11)) - (IntKind.wrap .u64 (q11 * y2)))) (IntKind.wrap .u64 (Int.tdiv (IntKind.wrap .u64 ((IntKind.wrap .u64 ((IntKind.wrap .u64 (un321 * 4294967296)) + un11)) - (IntKind.wrap .u64 (q11 * y2)))) yn11))) else none) k (IntKind.wrap .u64 (y * 2 ^ (min (IntKind.wrap .u64 n).toNat (IntKind.bits .u64)))) (IntKind.wrap .u64 n) (Int.fdiv (IntKind.wrap .u64 (y * 2 ^ (min (IntKind.wrap .u64 n).toNat (IntKind.bits .u64)))) (2 ^ (min (32 : Int).toNat (IntKind.bits .u64)))) (IntKind.wrap .u64 (BitVec.ofInt (IntKind.bits .u64) (IntKind.wrap .u64 (y * 2 ^ (min (IntKind.wrap .u64 n).toNat (IntKind.bits .u64)))) &&& BitVec.ofInt (IntKind.bits .u64) 4294967295).toNat) (IntKind.wrap .u64 (BitVec.ofInt (IntKind.bits .u64) (IntKind.wrap .u64 (hi * 2 ^ (min (IntKind.wrap .u64 n).toNat (IntKind.bits .u64)))) ||| BitVec.ofInt (IntKind.bits .u64) (Int.fdiv lo (2 ^ (min (IntKind.wrap .u64 ((64 : Int) - (IntKind.wrap .u64 n))).toNat (IntKind.bits .u64))))).toNat) (Int.fdiv (IntKind.wrap .u64 (lo * 2 ^ (min (IntKind.wrap .u64 n).toNat (IntKind.bits .u64)))) (2 ^ (min (32 : Int).toNat (IntKind.bits .u64)))) (IntKind.wrap .u64 (BitVec.ofInt (IntKind.bits .u64) (IntKind.wrap .u64 (lo * 2 ^ (min (IntKind.wrap .u64 n).toNat (IntKind.bits .u64)))) &&& BitVec.ofInt (IntKind.bits .u64) 4294967295).toNat) (IntKind.wrap .u64 (Int.tdiv (IntKind.wrap .u64 (BitVec.ofInt (IntKind.bits .u64) (IntKind.wrap .u64 (hi * 2 ^ (min (IntKind.wrap .u64 n).toNat (IntKind.bits .u64)))) ||| BitVec.ofInt (IntKind.bits .u64) (Int.fdiv lo (2 ^ (min (IntKind.wrap .u64 ((64 : Int) - (IntKind.wrap .u64 n))).toNat (IntKind.bits .u64))))).toNat) (Int.fdiv (IntKind.wrap .u64 (y * 2 ^ (min (IntKind.wrap .u64 n).toNat (IntKind.bits .u64)))) (2 ^ (min (32 : Int).toNat (IntKind.bits .u64)))))) (IntKind.wrap .u64 ((IntKind.wrap .u64 (BitVec.ofInt (IntKind.bits .u64) (IntKind.wrap .u64 (hi * 2 ^ (min (IntKind.wrap .u64 n).toNat (IntKind.bits .u64)))) ||| BitVec.ofInt (IntKind.bits .u64) (Int.fdiv lo (2 ^ (min (IntKind.wrap .u64 ((64 : Int) - (IntKind.wrap .u64 n))).toNat (IntKind.bits .u64))))).toNat) - (IntKind.wrap .u64 ((IntKind.wrap .u64 (Int.tdiv (IntKind.wrap .u64 (BitVec.ofInt (IntKind.bits .u64) (IntKind.wrap .u64 (hi * 2 ^ (min (IntKind.wrap .u64 n).toNat (IntKind.bits .u64)))) ||| BitVec.ofInt (IntKind.bits .u64) (Int.fdiv lo (2 ^ (min (IntKind.wrap .u64 ((64 : Int) - (IntKind.wrap .u64 n))).toNat (IntKind.bits .u64))))).toNat) (Int.fdiv (IntKind.wrap .u64 (y * 2 ^ (min (IntKind.wrap .u64 n).toNat (IntKind.bits .u64)))) (2 ^ (min (32 : Int).toNat (IntKind.bits .u64)))))) * (Int.fdiv (IntKind.wrap .u64 (y * 2 ^ (min (IntKind.wrap .u64 n).toNat (IntKind.bits .u64)))) (2 ^ (min (32 : Int).toNat (IntKind.bits .u64))))))))) else none) else none) else none) else none) else none) else none) else none))))
noncomputable def bits_Div64.T : List (Entry Try.prog Cx pr) := [bits_LeadingZeros64.E]
abbrev bits_Div64.s0 : Sh := ⟨[u, u, .one (.int .u64), u, u, u, u, u, .one (.int .u64), .one (.int .u64), .one (.int .u64), .one (.int .u64), u, .one (.int .u64), .one (.int .u64), .one (.int .u64), .one (.int .u64), u, u, u, u, u, u, u, u, u, u, u, u, u, u, u, u, u, u, u, u, u, u, u, u, u, u, u, u, u, u, u, u, u, u, u, u, u, u, u, u, u, u, u, u, u, u, u, u, u, u, u, u, u, u, u, u, u, u, u, u, u, u, u, u, u, u, u, u, u, u, u, u, u, u, u, u, u, u, u, u, u, u, u, u, u, u, u, u, u, u, u, u, u, u, u, u, u, u, u, u, u, u, u, u, u, u, u, u, u, u, u, u, u, u, u, u, u, u], [], []⟩
abbrev bits_Div64.e0_0 : Sh := ⟨[u, u, .one (.int .u64), u, u, u, u, u, .one (.int .u64), .one (.int .u64), .one (.int .u64), .one (.int .u64), u, .one (.int .u64), .one (.int .u64), .one (.int .u64), u, u, u, u, u, u, u, u, u, u, u, u, u, u, u, u, u, u, u, u, u, u, u, u, u, u, u, u, u, u, u, u, u, u, u, u, u, u, u, u, u, u, u, u, u, u, u, u, u, u, u, u, u, u, u, u, u, u, u, u, u, u, u, u, u, u, u, u, u, u, u, u, u, u, u, u, u, u, u, u, u, u, u, u, u, u, u, u, u, u, u, u, u, u, u, u, u, u, u, u, u, u, u, u, u, u, u, u, u, u, u, u, u, u, u, u, u, u, u], [], []⟩
noncomputable def bits_Div64.P0 {R : Type} (k : Nat) (K : Ex → St → Option R) (rec_ : bits_Div64.s0.den → Option R) (a : bits_Div64.s0.den) : Option R := bits_Div64.B0 k (fun y0 y1 y2 y3 y4 y5 y6 y7 => K (.exit 0) (bits_Div64.e0_0.enc (((), (), y0, (), (), (), (), (), y1, y2, y3, y4, (), y5, y6, y7, (), (), (), (), (), (), (), (), (), (), (), (), (), (), (), (), (), (), (), (), (), (), (), (), (), (), (), (), (), (), (), (), (), (), (), (), (), (), (), (), (), (), (), (), (), (), (), (), (), (), (), (), (), (), (), (), (), (), (), (), (), (), (), (), (), (), (), (), (), (), (), (), (), (), (), (), (), (), (), (), (), (), (), (), (), (), (), (), (), (), (), (), (), (), (), (), (), (), (), (), (), (), (), (), (), (), (), (), (), (), (), (), (), (), (), (), (), (), (), ()), ()))) (fun v0 v1 v2 v3 v4 v5 v6 v7 v8 => rec_ (((), (), v0, (), (), (), (), (), v1, v2, v3, v4, (), v5, v6, v7, v8, (), (), (), (), (), (), (), (), (), (), (), (), (), (), (), (), (), (), (), (), (), (), (), (), (), (), (), (), (), (), (), (), (), (), (), (), (), (), (), (), (), (), (), (), (), (), (), (), (), (), (), (), (), (), (), (), (), (), (), (), (), (), (), (), (), (), (), (), (), (), (), (), (), (), (), (), (), (), (), (), (), (), (), (), (), (), (), (), (), (), (), (), (), (), (), (), (), (), (), (), (), (), (), (), (), (), (), (), (), (), (), (), (), (), (), (), (), (), ()), ())) a.1.2.2.1 a.1.2.2.2.2.2.2.2.2.1 a.1.2.2.2.2.2.2.2.2.2.1 a.1.2.2.2.2.2.2.2.2.2.2.1 a.1.2.2.2.2.2.2.2.2.2.2.2.1 a.1.2.2.2.2.2.2.2.2.2.2.2.2.2.1 a.1.2.2.2.2.2.2.2.2.2.2.2.2.2.2.1 a.1.2.2.2.2.2.2.2.2.2.2.2.2.2.2.2.1 a.1.2.2.2.2.2.2.2.2.2.2.2.2.2.2.2.2.1
noncomputable def bits_Div64.Q0 {R : Type} (k : Nat) (K : Ex → St → Option R) (m : Nat) (a : bits_Div64.s0.den) : Option R := bits_Div64.L0 k (fun y0 y1 y2 y3 y4 y5 y6 y7 => K (.exit 0) (bits_Div64.e0_0.enc (((), (), y0, (), (), (), (), (), y1, y2, y3, y4, (), y5, y6, y7, (), (), (), (), (), (), (), (), (), (), (), (), (), (), (), (), (), (), (), (), (), (), (), (), (), (), (), (), (), (), (), (), (), (), (), (), (), (), (), (), (), (), (), (), (), (), (), (), (), (), (), (), (), (), (), (), (), (), (), (), (), (), (), (), (), (), (), (), (), (), (), (), (), (), (), (), (), (), (), (), (), (), (), (), (), (), (), (), (), (), (), (), (), (), (), (), (), (), (), (), (), (), (), (), (), (), (), (), (), (), (), (), (), (), (), (), (), (), (), ()), ()))) m a.1.2.2.1 a.1.2.2.2.2.2.2.2.2.1 a.1.2.2.2.2.2.2.2.2.2.1 a.1.2.2.2.2.2.2.2.2.2.2.1 a.1.2.2.2.2.2.2.2.2.2.2.2.1 a.1.2.2.2.2.2.2.2.2.2.2.2.2.2.1 a.1.2.2.2.2.2.2.2.2.2.2.2.2.2.2.1 a.1.2.2.2.2.2.2.2.2.2.2.2.2.2.2.2.1 a.1.2.2.2.2.2.2.2.2.2.2.2.2.2.2.2.2.1
noncomputable def bits_Div64.H0 {R : Type} (k : Nat) (st : St) (K : Ex → St → Option R) : Option R := hookL (fun st K => aCode Cx 66 (callT k bits_Div64.T) k (lc Try.f66 0) 0 st K) (Cx.hint 66 0) k bits_Div64.s0.dec (bits_Div64.Q0 k) st K
theorem bits_Div64.h0 {R : Type} (k : Nat) (st : St) (K : Ex → St → Option R) : bits_Div64.H0 k st K = aCode Cx 66 (callT k bits_Div64.T) k (.loop (lc Try.f66 0)) 0 st K :=
  hookL_eq Sh.dec_ok (Φ := bits_Div64.P0 k) (fun K a => rfl) (fun K m a => rfl) (fun K m a => loop_step (hookOf []) (allL (l' := []) (by kernel_rfl) trivial) K m _ (by kernel_rfl)) st K
abbrev bits_Div64.s2 : Sh := ⟨[u, u, .one (.int .u64), u, u, u, u, u, .one (.int .u64), .one (.int .u64), .one (.int .u64), u, u, u, .one (.int .u64), .one (.int .u64), .one (.int .u64), .one (.int .u64), .one (.int .u64), u, u, u, u, u, u, u, u, u, u, u, u, u, u, u, u, u, u, u, u, u, u, u, u, u, u, u, u, u, u, u, u, u, u, u, u, u, u, u, u, u, u, u, u, u, u, u, u, u, u, u, u, u, u, u, u, u, u, u, u, u, u, u, u, u, u, u, u, u, u, u, u, u, u, u, u, u, u, u, u, u, u, u, u, u, u, u, u, u, u, u, u, u, u, u, u, u, u, u, u, u, u, u, u, u, u, u, u, u, u, u, u, u, u, u, u], [], []⟩
abbrev bits_Div64.e2_0 : Sh := ⟨[u, u, .one (.int .u64), u, u, u, u, u, .one (.int .u64), u, u, u, u, u, .one (.int .u64), .one (.int .u64), u, .one (.int .u64), .one (.int .u64), u, u, u, u, u, u, u, u, u, u, u, u, u, u, u, u, u, u, u, u, u, u, u, u, u, u, u, u, u, u, u, u, u, u, u, u, u, u, u, u, u, u, u, u, u, u, u, u, u, u, u, u, u, u, u, u, u, u, u, u, u, u, u, u, u, u, u, u, u, u, u, u, u, u, u, u, u, u, u, u, u, u, u, u, u, u, u, u, u, u, u, u, u, u, u, u, u, u, u, u, u, u, u, u, u, u, u, u, u, u, u, u, u, u, u, u], [], []⟩
noncomputable def bits_Div64.P2 {R : Type} (k : Nat) (K : Ex → St → Option R) (rec_ : bits_Div64.s2.den → Option R) (a : bits_Div64.s2.den) : Option R := bits_Div64.B2 k (fun y0 y1 y2 y3 y4 y5 => K (.exit 2) (bits_Div64.e2_0.enc (((), (), y0, (), (), (), (), (), y1, (), (), (), (), (), y2, y3, (), y4, y5, (), (), (), (), (), (), (), (), (), (), (), (), (), (), (), (), (), (), (), (), (), (), (), (), (), (), (), (), (), (), (), (), (), (), (), (), (), (), (), (), (), (), (), (), (), (), (), (), (), (), (), (), (), (), (), (), (), (), (), (), (), (), (), (), (), (), (), (), (), (), (), (), (), (), (), (), (), (), (), (), (), (), (), (), (), (), (), (), (), (), (), (), (), (), (), (), (), (), (), (), (), (), (), (), (), (), (), (), (), (), (), (), (), (), (), (), ()), ()))) (fun v0 v1 v2 v3 v4 v5 v6 v7 v8 => rec_ (((), (), v0, (), (), (), (), (), v1, v2, v3, (), (), (), v4, v5, v6, v7, v8, (), (), (), (), (), (), (), (), (), (), (), (), (), (), (), (), (), (), (), (), (), (), (), (), (), (), (), (), (), (), (), (), (), (), (), (), (), (), (), (), (), (), (), (), (), (), (), (), (), (), (), (), (), (), (), (), (), (), (), (), (), (), (), (), (), (), (), (), (), (), (), (), (), (), (), (), (), (), (), (), (), (), (), (), (), (), (), (), (), (), (), (), (), (), (), (), (), (), (), (), (), (), (), (), (), (), (), (), (), (), (), (), (), (), (), (), ()), ())) a.1.2.2.1 a.1.2.2.2.2.2.2.2.2.1 a.1.2.2.2.2.2.2.2.2.2.1 a.1.2.2.2.2.2.2.2.2.2.2.1 a.1.2.2.2.2.2.2.2.2.2.2.2.2.2.2.1 a.1.2.2.2.2.2.2.2.2.2.2.2.2.2.2.2.1 a.1.2.2.2.2.2.2.2.2.2.2.2.2.2.2.2.2.1 a.1.2.2.2.2.2.2.2.2.2.2.2.2.2.2.2.2.2.1 a.1.2.2.2.2.2.2.2.2.2.2.2.2.2.2.2.2.2.2.1
noncomputable def bits_Div64.Q2 {R : Type} (k : Nat) (K : Ex → St → Option R) (m : Nat) (a : bits_Div64.s2.den) : Option R := bits_Div64.L2 k (fun y0 y1 y2 y3 y4 y5 => K (.exit 2) (bits_Div64.e2_0.enc (((), (), y0, (), (), (), (), (), y1, (), (), (), (), (), y2, y3, (), y4, y5, (), (), (), (), (), (), (), (), (), (), (), (), (), (), (), (), (), (), (), (), (), (), (), (), (), (), (), (), (), (), (), (), (), (), (), (), (), (), (), (), (), (), (), (), (), (), (), (), (), (), (), (), (), (), (), (), (), (), (), (), (), (), (), (), (), (), (), (), (), (), (), (), (), (), (), (), (), (), (), (), (), (), (), (), (), (), (), (), (), (), (), (), (), (), (), (), (), (), (), (), (), (), (), (), (), (), (), (), (), (), (), (), (), (), (), (), ()), ()))) m a.1.2.2.1 a.1.2.2.2.2.2.2.2.2.1 a.1.2.2.2.2.2.2.2.2.2.1 a.1.2.2.2.2.2.2.2.2.2.2.1 a.1.2.2.2.2.2.2.2.2.2.2.2.2.2.2.1 a.1.2.2.2.2.2.2.2.2.2.2.2.2.2.2.2.1 a.1.2.2.2.2.2.2.2.2.2.2.2.2.2.2.2.2.1 a.1.2.2.2.2.2.2.2.2.2.2.2.2.2.2.2.2.2.1 a.1.2.2.2.2.2.2.2.2.2.2.2.2.2.2.2.2.2.2.1
noncomputable def bits_Div64.H2 {R : Type} (k : Nat) (st : St) (K : Ex → St → Option R) : Option R := hookL (fun st K => aCode Cx 66 (callT k bits_Div64.T) k (lc Try.f66 2) 2 st K) (Cx.hint 66 2) k bits_Div64.s2.dec (bits_Div64.Q2 k) st K
theorem bits_Div64.h2 {R : Type} (k : Nat) (st : St) (K : Ex → St → Option R) : bits_Div64.H2 k st K = aCode Cx 66 (callT k bits_Div64.T) k (.loop (lc Try.f66 2)) 2 st K :=
  hookL_eq Sh.dec_ok (Φ := bits_Div64.P2 k) (fun K a => rfl) (fun K m a => rfl) (fun K m a => loop_step (hookOf []) (allL (l' := []) (by kernel_rfl) trivial) K m _ (by kernel_rfl)) st K
abbrev bits_Div64.as : List AS := [.ty (.int .u64), .ty (.int .u64), .ty (.int .u64)]
abbrev bits_Div64.hs : List SS := []
abbrev bits_Div64.rts : List CV := []
abbrev bits_Div64.rs : VS := .tup [(false, [.int .u64]), (false, [.int .u64])]
noncomputable def bits_Div64.g : Nat → {R : Type} → HA bits_Div64.as × HS bits_Div64.hs → (bits_Div64.rs.den → Option R) → Option R := fun k {R} a ret => bits_Div64.f k a.1.1 a.1.2.1 a.1.2.2.1 (fun y0 y1 => ret ((y0, ()), (y1, ()), ()))
noncomputable def bits_Div64.E : Entry Try.prog Cx pr where
  id := 66
  args := bits_Div64.as
  heap := bits_Div64.hs
  roots := bits_Div64.rts
  res := bits_Div64.rs
  f := bits_Div64.g
  ok := entry_ok (args := bits_Div64.as) (heap := bits_Div64.hs) (roots := bits_Div64.rts) (res := bits_Div64.rs) (f := bits_Div64.g) rfl Try.func66 bits_Div64.T rfl (fun a K => rfl) (fun k {R} a K => fun_step (c := (Try.f66.body).getD .skip) (by kernel_rfl) (hookOf [(0, bits_Div64.H0 k), (2, bits_Div64.H2 k)]) (allL (l' := [(0, lc Try.f66 0), (2, lc Try.f66 2)]) (by kernel_rfl) ⟨bits_Div64.h0 k, bits_Div64.h2 k, trivial⟩) _ K (by kernel_rfl))

/-! ### math/bits.Rem64: function 51 -/
noncomputable def bits_Rem64.f {R : Type} : Nat → Int → Int → Int → (Int → Option R) → Option R
  | 0, _, _, _, _ => none
  | k + 1, hi, lo, y, ret =>
    bif (y != 0) then (bits_Div64.f k (Int.tmod hi y) lo y (fun n n1 =>
      ret n1)) else none
noncomputable def bits_Rem64.T : List (Entry Try.prog Cx pr) := [bits_Div64.E]
abbrev bits_Rem64.as : List AS := [.ty (.int .u64), .ty (.int .u64), .ty (.int .u64)]
abbrev bits_Rem64.hs : List SS := []
abbrev bits_Rem64.rts : List CV := []
abbrev bits_Rem64.rs : VS := .one (.int .u64)
noncomputable def bits_Rem64.g : Nat → {R : Type} → HA bits_Rem64.as × HS bits_Rem64.hs → (bits_Rem64.rs.den → Option R) → Option R := fun k {R} a ret => bits_Rem64.f k a.1.1 a.1.2.1 a.1.2.2.1 (fun y0 => ret y0)
noncomputable def bits_Rem64.E : Entry Try.prog Cx pr where
  id := 51
  args := bits_Rem64.as
  heap := bits_Rem64.hs
  roots := bits_Rem64.rts
  res := bits_Rem64.rs
  f := bits_Rem64.g
  ok := entry_ok (args := bits_Rem64.as) (heap := bits_Rem64.hs) (roots := bits_Rem64.rts) (res := bits_Rem64.rs) (f := bits_Rem64.g) rfl Try.func51 bits_Rem64.T rfl (fun a K => rfl) (fun k {R} a K => fun_step (c := (Try.f51.body).getD .skip) (by kernel_rfl) (hookOf []) (allL (l' := []) (by kernel_rfl) trivial) _ K (by kernel_rfl))

/-! ### affidavit/field.mul: function 38 -/
noncomputable def field_mul.f {R : Type} : Nat → Int → Int → Int → (Int → Option R) → Option R
  | 0, _, _, _, _ => none
  | k + 1, p, a, b, ret =>
    bits_Mul64.f k a b (fun n n1 =>
      bits_Rem64.f k n n1 p (fun n2 =>
        ret n2))
noncomputable def field_mul.T : List (Entry Try.prog Cx pr) := [bits_Mul64.E, bits_Rem64.E]
abbrev field_mul.as : List AS := [.ty (.int .u64), .ty (.int .u64), .ty (.int .u64)]
abbrev field_mul.hs : List SS := []
abbrev field_mul.rts : List CV := []
abbrev field_mul.rs : VS := .one (.int .u64)
noncomputable def field_mul.g : Nat → {R : Type} → HA field_mul.as × HS field_mul.hs → (field_mul.rs.den → Option R) → Option R := fun k {R} a ret => field_mul.f k a.1.1 a.1.2.1 a.1.2.2.1 (fun y0 => ret y0)
noncomputable def field_mul.E : Entry Try.prog Cx pr where
  id := 38
  args := field_mul.as
  heap := field_mul.hs
  roots := field_mul.rts
  res := field_mul.rs
  f := field_mul.g
  ok := entry_ok (args := field_mul.as) (heap := field_mul.hs) (roots := field_mul.rts) (res := field_mul.rs) (f := field_mul.g) rfl Try.func38 field_mul.T rfl (fun a K => rfl) (fun k {R} a K => fun_step (c := (Try.f38.body).getD .skip) (by kernel_rfl) (hookOf []) (allL (l' := []) (by kernel_rfl) trivial) _ K (by kernel_rfl))

/-! ### affidavit/field.Pow: function 25 -/
noncomputable def field_Pow.B0 {R : Type} (k : Nat) (x0_ : Int → Option R) (rec_ : Int → Int → Int → Int → Option R) (p1 : Int) (a1 : Int) (n1 : Int) (out : Int) : Option R :=
  bif (decide (n1 > 0)) then
    (bif ((IntKind.wrap .u64 (BitVec.ofInt (IntKind.bits .u64) n1 &&& BitVec.ofInt (IntKind.bits .u64) 1).toNat) == 1) then
      (field_mul.f k p1 out a1 (fun n2 =>
        field_mul.f k p1 a1 a1 (fun n3 =>
          bif decide (0 ≤ (1 : Int)) then (rec_ p1 n3 (Int.fdiv n1 (2 ^ (min (1 : Int).toNat (IntKind.bits .u64)))) n2) else none)))
    else
      (field_mul.f k p1 a1 a1 (fun n4 =>
        bif decide (0 ≤ (1 : Int)) then (rec_ p1 n4 (Int.fdiv n1 (2 ^ (min (1 : Int).toNat (IntKind.bits .u64)))) out) else none)))
  else
    (x0_ out)
noncomputable def field_Pow.L0 {R : Type} (k : Nat) (x0_ : Int → Option R) : Nat → Int → Int → Int → Int → Option R
  | 0, _, _, _, _ => none
  | m + 1, p1, a1, n1, out => field_Pow.B0 k x0_ (field_Pow.L0 k x0_ m) p1 a1 n1 out
noncomputable def field_Pow.f {R : Type} : Nat → Int → Int → Int → (Int → Int → Option R) → Option R
  | 0, _, _, _, _ => none
  | k + 1, p, a, n, ret =>
    field_Has.f k p ([a] : List Int) (fun b =>
      bif (!b) then
        (ret 0 1)
      else
        (field_Pow.L0 k (fun out1 =>
          ret out1 0) k p a n 1))
noncomputable def field_Pow.T : List (Entry Try.prog Cx pr) := [field_Has.E, field_mul.E]
abbrev field_Pow.s0 : Sh := ⟨[.one (.int .u64), .one (.int .u64), .one (.int .u64), u, u, u, u, u, .one (.int .u64), u, u, u, u, u, u, u, u, u, u, u, u, u, u, u, u, u, u, u, u, u], [], []⟩
abbrev field_Pow.e0_0 : Sh := ⟨[u, u, u, u, u, u, u, u, .one (.int .u64), u, u, u, u, u, u, u, u, u, u, u, u, u, u, u, u, u, u, u, u, u], [], []⟩
noncomputable def field_Pow.P0 {R : Type} (k : Nat) (K : Ex → St → Option R) (rec_ : field_Pow.s0.den → Option R) (a : field_Pow.s0.den) : Option R := field_Pow.B0 k (fun y0 => K (.exit 0) (field_Pow.e0_0.enc (((), (), (), (), (), (), (), (), y0, (), (), (), (), (), (), (), (), (), (), (), (), (), (), (), (), (), (), (), (), (), ()), ()))) (fun v0 v1 v2 v3 => rec_ ((v0, v1, v2, (), (), (), (), (), v3, (), (), (), (), (), (), (), (), (), (), (), (), (), (), (), (), (), (), (), (), (), ()), ())) a.1.1 a.1.2.1 a.1.2.2.1 a.1.2.2.2.2.2.2.2.2.1
noncomputable def field_Pow.Q0 {R : Type} (k : Nat) (K : Ex → St → Option R) (m : Nat) (a : field_Pow.s0.den) : Option R := field_Pow.L0 k (fun y0 => K (.exit 0) (field_Pow.e0_0.enc (((), (), (), (), (), (), (), (), y0, (), (), (), (), (), (), (), (), (), (), (), (), (), (), (), (), (), (), (), (), (), ()), ()))) m a.1.1 a.1.2.1 a.1.2.2.1 a.1.2.2.2.2.2.2.2.2.1
noncomputable def field_Pow.H0 {R : Type} (k : Nat) (st : St) (K : Ex → St → Option R) : Option R := hookL (fun st K => aCode Cx 25 (callT k field_Pow.T) k (lc Try.f25 0) 0 st K) (Cx.hint 25 0) k field_Pow.s0.dec (field_Pow.Q0 k) st K
theorem field_Pow.h0 {R : Type} (k : Nat) (st : St) (K : Ex → St → Option R) : field_Pow.H0 k st K = aCode Cx 25 (callT k field_Pow.T) k (.loop (lc Try.f25 0)) 0 st K :=
  hookL_eq Sh.dec_ok (Φ := field_Pow.P0 k) (fun K a => rfl) (fun K m a => rfl) (fun K m a => loop_step (hookOf []) (allL (l' := []) (by kernel_rfl) trivial) K m _ (by kernel_rfl)) st K
abbrev field_Pow.as : List AS := [.ty (.int .u64), .ty (.int .u64), .ty (.int .u64)]
abbrev field_Pow.hs : List SS := []
abbrev field_Pow.rts : List CV := []
abbrev field_Pow.rs : VS := .tup [(false, [.int .u64]), (false, [.int .i64])]
noncomputable def field_Pow.g : Nat → {R : Type} → HA field_Pow.as × HS field_Pow.hs → (field_Pow.rs.den → Option R) → Option R := fun k {R} a ret => field_Pow.f k a.1.1 a.1.2.1 a.1.2.2.1 (fun y0 y1 => ret ((y0, ()), (y1, ()), ()))
noncomputable def field_Pow.E : Entry Try.prog Cx pr where
  id := 25
  args := field_Pow.as
  heap := field_Pow.hs
  roots := field_Pow.rts
  res := field_Pow.rs
  f := field_Pow.g
  ok := entry_ok (args := field_Pow.as) (heap := field_Pow.hs) (roots := field_Pow.rts) (res := field_Pow.rs) (f := field_Pow.g) rfl Try.func25 field_Pow.T rfl (fun a K => rfl) (fun k {R} a K => fun_step (c := (Try.f25.body).getD .skip) (by kernel_rfl) (hookOf [(0, field_Pow.H0 k)]) (allL (l' := [(0, lc Try.f25 0)]) (by kernel_rfl) ⟨field_Pow.h0 k, trivial⟩) _ K (by kernel_rfl))

/-! ### affidavit/prime.one: function 42 -/
noncomputable def prime_one.f {R : Type} : Nat → (Int × Int × List (Int × Int)) → Int → (Bool → Option R) → Option R
  | 0, _, _, _ => none
  | k + 1, x, n, ret =>
    field_Pow.f k x.1 x.2.1 n (fun n1 n2 =>
      ret (n1 == 1))
noncomputable def prime_one.T : List (Entry Try.prog Cx pr) := [field_Pow.E]
abbrev prime_one.as : List AS := [.ty tProof, .ty (.int .u64)]
abbrev prime_one.hs : List SS := []
abbrev prime_one.rts : List CV := []
abbrev prime_one.rs : VS := .one (.bool)
noncomputable def prime_one.g : Nat → {R : Type} → HA prime_one.as × HS prime_one.hs → (prime_one.rs.den → Option R) → Option R := fun k {R} a ret => prime_one.f k a.1.1 a.1.2.1 (fun y0 => ret y0)
noncomputable def prime_one.E : Entry Try.prog Cx pr where
  id := 42
  args := prime_one.as
  heap := prime_one.hs
  roots := prime_one.rts
  res := prime_one.rs
  f := prime_one.g
  ok := entry_ok (args := prime_one.as) (heap := prime_one.hs) (roots := prime_one.rts) (res := prime_one.rs) (f := prime_one.g) rfl Try.func42 prime_one.T rfl (fun a K => rfl) (fun k {R} a K => fun_step (c := (Try.f42.body).getD .skip) (by kernel_rfl) (hookOf []) (allL (l' := []) (by kernel_rfl) trivial) _ K (by kernel_rfl))

/-! ### affidavit/prime.shows$1: function 44 -/
noncomputable def prime_shows_1.f {R : Type} : Nat → (Int × Int) → (List (Unit × Int × Bool)) → (Int × Int × List (Int × Int)) → (Bool → Option R) → Option R
  | 0, _, _, _, _ => none
  | k + 1, y, a1, a2, ret =>
    bif (!(Am.mget false a1 y.1)) then
      (ret true)
    else
      (bif (y.1 != 0) then (prime_one.f k a2 (IntKind.wrap .u64 (Int.tdiv (IntKind.wrap .u64 (a2.1 - 1)) y.1)) (fun b =>
        ret b)) else none)
noncomputable def prime_shows_1.T : List (Entry Try.prog Cx pr) := [prime_one.E]
abbrev prime_shows_1.as : List AS := [.ty tPart, .fptr (.sl (.pair .unit (.pair (.int .u64) .bool))) 0, .fptr tProof 0]
abbrev prime_shows_1.hs : List SS := []
abbrev prime_shows_1.rts : List CV := []
abbrev prime_shows_1.rs : VS := .one (.bool)
noncomputable def prime_shows_1.g : Nat → {R : Type} → HA prime_shows_1.as × HS prime_shows_1.hs → (prime_shows_1.rs.den → Option R) → Option R := fun k {R} a ret => prime_shows_1.f k a.1.1 a.1.2.1 a.1.2.2.1 (fun y0 => ret y0)
noncomputable def prime_shows_1.E : Entry Try.prog Cx pr where
  id := 44
  args := prime_shows_1.as
  heap := prime_shows_1.hs
  roots := prime_shows_1.rts
  res := prime_shows_1.rs
  f := prime_shows_1.g
  ok := entry_ok (args := prime_shows_1.as) (heap := prime_shows_1.hs) (roots := prime_shows_1.rts) (res := prime_shows_1.rs) (f := prime_shows_1.g) rfl Try.func44 prime_shows_1.T rfl (fun a K => rfl) (fun k {R} a K => fun_step (c := (Try.f44.body).getD .skip) (by kernel_rfl) (hookOf []) (allL (l' := []) (by kernel_rfl) trivial) _ K (by kernel_rfl))

/-! ### slices.IndexFunc[[]affidavit/api.Part,affidavit/api.Part]: function 54 -/
noncomputable def slices_IndexFunc.B0 {R : Type} (k : Nat) (x0_ : Int → Option R) (x1_ : Unit → Option R) (rec_ : List (Int × Int) → List (Unit × Int × Bool) → Int × Int × List (Int × Int) → Int → Int → Option R) (s1 : List (Int × Int)) (f : List (Unit × Int × Bool)) (f1 : Int × Int × List (Int × Int)) (t7 : Int) (t8 : Int) : Option R :=
  bif (decide (t8 < t7)) then
    (bif (decide (0 ≤ t8) && decide (t8 < (s1.length : Int))) then (prime_shows_1.f k (s1.getD t8.toNat (0, 0)) f f1 (fun b =>
      bif b then
        (x0_ t8)
      else
        (rec_ s1 f f1 t7 (IntKind.wrap .i64 (t8 + 1))))) else none)
  else
    (x1_ ())
noncomputable def slices_IndexFunc.L0 {R : Type} (k : Nat) (x0_ : Int → Option R) (x1_ : Unit → Option R) : Nat → List (Int × Int) → List (Unit × Int × Bool) → Int × Int × List (Int × Int) → Int → Int → Option R
  | 0, _, _, _, _, _ => none
  | m + 1, s1, f, f1, t7, t8 => slices_IndexFunc.B0 k x0_ x1_ (slices_IndexFunc.L0 k x0_ x1_ m) s1 f f1 t7 t8
noncomputable def slices_IndexFunc.f {R : Type} : Nat → (List (Int × Int)) → (List (Unit × Int × Bool)) → (Int × Int × List (Int × Int)) → (Int → Option R) → Option R
  | 0, _, _, _, _ => none
  | k + 1, s, c, c1, ret =>
    slices_IndexFunc.L0 k (fun t4 =>
      ret t4) (fun _ =>
      ret (-1)) k s c c1 (s.length : Int) 0
noncomputable def slices_IndexFunc.T : List (Entry Try.prog Cx pr) := [prime_shows_1.E]
abbrev slices_IndexFunc.s0 : Sh := ⟨[.one (.vsl tPart), .one (.fn 44 [] [.fptr (.sl (.pair .unit (.pair (.int .u64) .bool))) 0, .fptr tProof 0]), u, u, u, u, u, .one (.int .i64), .one (.int .i64), u, u, u, u, u, u, u, u, u, u], [], []⟩
abbrev slices_IndexFunc.e0_0 : Sh := ⟨[u, u, u, u, .one (.int .i64), u, u, u, u, u, u, u, u, u, u, u, u, u, u], [], []⟩
abbrev slices_IndexFunc.e0_1 : Sh := ⟨[u, u, u, u, u, u, u, u, u, u, u, u, u, u, u, u, u, u, u], [], []⟩
noncomputable def slices_IndexFunc.P0 {R : Type} (k : Nat) (K : Ex → St → Option R) (rec_ : slices_IndexFunc.s0.den → Option R) (a : slices_IndexFunc.s0.den) : Option R := slices_IndexFunc.B0 k (fun y0 => K .ret (slices_IndexFunc.e0_0.enc (((), (), (), (), y0, (), (), (), (), (), (), (), (), (), (), (), (), (), (), ()), ()))) (fun _ => K (.exit 0) (slices_IndexFunc.e0_1.enc (((), (), (), (), (), (), (), (), (), (), (), (), (), (), (), (), (), (), (), ()), ()))) (fun v0 v1 v2 v3 v4 => rec_ ((v0, ((), (v1, v2, ())), (), (), (), (), (), v3, v4, (), (), (), (), (), (), (), (), (), (), ()), ())) a.1.1 a.1.2.1.2.1 a.1.2.1.2.2.1 a.1.2.2.2.2.2.2.2.1 a.1.2.2.2.2.2.2.2.2.1
noncomputable def slices_IndexFunc.Q0 {R : Type} (k : Nat) (K : Ex → St → Option R) (m : Nat) (a : slices_IndexFunc.s0.den) : Option R := slices_IndexFunc.L0 k (fun y0 => K .ret (slices_IndexFunc.e0_0.enc (((), (), (), (), y0, (), (), (), (), (), (), (), (), (), (), (), (), (), (), ()), ()))) (fun _ => K (.exit 0) (slices_IndexFunc.e0_1.enc (((), (), (), (), (), (), (), (), (), (), (), (), (), (), (), (), (), (), (), ()), ()))) m a.1.1 a.1.2.1.2.1 a.1.2.1.2.2.1 a.1.2.2.2.2.2.2.2.1 a.1.2.2.2.2.2.2.2.2.1
noncomputable def slices_IndexFunc.H0 {R : Type} (k : Nat) (st : St) (K : Ex → St → Option R) : Option R := hookL (fun st K => aCode Cx 54 (callT k slices_IndexFunc.T) k (lc Try.f54 0) 0 st K) (Cx.hint 54 0) k slices_IndexFunc.s0.dec (slices_IndexFunc.Q0 k) st K
theorem slices_IndexFunc.h0 {R : Type} (k : Nat) (st : St) (K : Ex → St → Option R) : slices_IndexFunc.H0 k st K = aCode Cx 54 (callT k slices_IndexFunc.T) k (.loop (lc Try.f54 0)) 0 st K :=
  hookL_eq Sh.dec_ok (Φ := slices_IndexFunc.P0 k) (fun K a => rfl) (fun K m a => rfl) (fun K m a => loop_step (hookOf []) (allL (l' := []) (by kernel_rfl) trivial) K m _ (by kernel_rfl)) st K
abbrev slices_IndexFunc.as : List AS := [.ty (.sl tPart), .fn 44 [] [.fptr (.sl (.pair .unit (.pair (.int .u64) .bool))) 0, .fptr tProof 0]]
abbrev slices_IndexFunc.hs : List SS := []
abbrev slices_IndexFunc.rts : List CV := []
abbrev slices_IndexFunc.rs : VS := .one (.int .i64)
noncomputable def slices_IndexFunc.g : Nat → {R : Type} → HA slices_IndexFunc.as × HS slices_IndexFunc.hs → (slices_IndexFunc.rs.den → Option R) → Option R := fun k {R} a ret => slices_IndexFunc.f k a.1.1 a.1.2.1.2.1 a.1.2.1.2.2.1 (fun y0 => ret y0)
noncomputable def slices_IndexFunc.E : Entry Try.prog Cx pr where
  id := 54
  args := slices_IndexFunc.as
  heap := slices_IndexFunc.hs
  roots := slices_IndexFunc.rts
  res := slices_IndexFunc.rs
  f := slices_IndexFunc.g
  ok := entry_ok (args := slices_IndexFunc.as) (heap := slices_IndexFunc.hs) (roots := slices_IndexFunc.rts) (res := slices_IndexFunc.rs) (f := slices_IndexFunc.g) rfl Try.func54 slices_IndexFunc.T rfl (fun a K => rfl) (fun k {R} a K => fun_step (c := (Try.f54.body).getD .skip) (by kernel_rfl) (hookOf [(0, slices_IndexFunc.H0 k)]) (allL (l' := [(0, lc Try.f54 0)]) (by kernel_rfl) ⟨slices_IndexFunc.h0 k, trivial⟩) _ K (by kernel_rfl))

/-! ### slices.ContainsFunc[[]affidavit/api.Part,affidavit/api.Part]: function 43 -/
noncomputable def slices_ContainsFunc.f {R : Type} : Nat → (List (Int × Int)) → (List (Unit × Int × Bool)) → (Int × Int × List (Int × Int)) → (Bool → Option R) → Option R
  | 0, _, _, _, _ => none
  | k + 1, s, c, c1, ret =>
    slices_IndexFunc.f k s c c1 (fun n =>
      ret (decide (n ≥ 0)))
noncomputable def slices_ContainsFunc.T : List (Entry Try.prog Cx pr) := [slices_IndexFunc.E]
abbrev slices_ContainsFunc.as : List AS := [.ty (.sl tPart), .fn 44 [] [.fptr (.sl (.pair .unit (.pair (.int .u64) .bool))) 0, .fptr tProof 0]]
abbrev slices_ContainsFunc.hs : List SS := []
abbrev slices_ContainsFunc.rts : List CV := []
abbrev slices_ContainsFunc.rs : VS := .one (.bool)
noncomputable def slices_ContainsFunc.g : Nat → {R : Type} → HA slices_ContainsFunc.as × HS slices_ContainsFunc.hs → (slices_ContainsFunc.rs.den → Option R) → Option R := fun k {R} a ret => slices_ContainsFunc.f k a.1.1 a.1.2.1.2.1 a.1.2.1.2.2.1 (fun y0 => ret y0)
noncomputable def slices_ContainsFunc.E : Entry Try.prog Cx pr where
  id := 43
  args := slices_ContainsFunc.as
  heap := slices_ContainsFunc.hs
  roots := slices_ContainsFunc.rts
  res := slices_ContainsFunc.rs
  f := slices_ContainsFunc.g
  ok := entry_ok (args := slices_ContainsFunc.as) (heap := slices_ContainsFunc.hs) (roots := slices_ContainsFunc.rts) (res := slices_ContainsFunc.rs) (f := slices_ContainsFunc.g) rfl Try.func43 slices_ContainsFunc.T rfl (fun a K => rfl) (fun k {R} a K => fun_step (c := (Try.f43.body).getD .skip) (by kernel_rfl) (hookOf []) (allL (l' := []) (by kernel_rfl) trivial) _ K (by kernel_rfl))

/-! ### affidavit/prime.shows: function 28 -/
noncomputable def prime_shows.f {R : Type} : Nat → (Int × Int × List (Int × Int)) → (List (Unit × Int × Bool)) → (Bool → Option R) → Option R
  | 0, _, _, _ => none
  | k + 1, x, known, ret =>
    prime_formed.f k x (fun b =>
      bif (!b) then
        (ret false)
      else
        (prime_one.f k x (IntKind.wrap .u64 (x.1 - 1)) (fun b1 =>
          bif (!b1) then
            (ret false)
          else
            (slices_ContainsFunc.f k x.2.2 known x (fun b2 =>
              ret (!b2))))))
noncomputable def prime_shows.T : List (Entry Try.prog Cx pr) := [prime_formed.E, prime_one.E, slices_ContainsFunc.E]
abbrev prime_shows.as : List AS := [.ty tProof, .ty (.sl (.pair .unit (.pair (.int .u64) .bool)))]
abbrev prime_shows.hs : List SS := []
abbrev prime_shows.rts : List CV := []
abbrev prime_shows.rs : VS := .one (.bool)
noncomputable def prime_shows.g : Nat → {R : Type} → HA prime_shows.as × HS prime_shows.hs → (prime_shows.rs.den → Option R) → Option R := fun k {R} a ret => prime_shows.f k a.1.1 a.1.2.1 (fun y0 => ret y0)
noncomputable def prime_shows.E : Entry Try.prog Cx pr where
  id := 28
  args := prime_shows.as
  heap := prime_shows.hs
  roots := prime_shows.rts
  res := prime_shows.rs
  f := prime_shows.g
  ok := entry_ok (args := prime_shows.as) (heap := prime_shows.hs) (roots := prime_shows.rts) (res := prime_shows.rs) (f := prime_shows.g) rfl Try.func28 prime_shows.T rfl (fun a K => rfl) (fun k {R} a K => fun_step (c := (Try.f28.body).getD .skip) (by kernel_rfl) (hookOf []) (allL (l' := []) (by kernel_rfl) trivial) _ K (by kernel_rfl))

/-! ### affidavit/prime.proof: function 32 -/
noncomputable def prime_proof.B0 {R : Type} (k : Nat) (x0_ : Int → List (Int × Int) → Int → Int → List (Int × Int) → List (Unit × Int × Bool) → Option R) (rec_ : Int → List (Int × Int) → List (Int × Int) → Int → Int → Int → Int → List (Int × Int) → List (Unit × Int × Bool) → Option R) (p1 : Int) (parts1 : List (Int × Int)) (t12 : List (Int × Int)) (t13 : Int) (t14 : Int) (h0 : Int) (h01 : Int) (h1 : List (Int × Int)) (odd : List (Unit × Int × Bool)) : Option R :=
  bif (decide (t14 < t13)) then
    (bif (decide (0 ≤ t14) && decide (t14 < (t12.length : Int))) then (rec_ p1 parts1 t12 t13 (IntKind.wrap .i64 (t14 + 1)) h0 h01 h1 (Am.mset odd ((t12.getD t14.toNat (0, 0)).1) true)) else none)
  else
    (x0_ p1 parts1 h0 h01 h1 odd)
noncomputable def prime_proof.L0 {R : Type} (k : Nat) (x0_ : Int → List (Int × Int) → Int → Int → List (Int × Int) → List (Unit × Int × Bool) → Option R) : Nat → Int → List (Int × Int) → List (Int × Int) → Int → Int → Int → Int → List (Int × Int) → List (Unit × Int × Bool) → Option R
  | 0, _, _, _, _, _, _, _, _, _ => none
  | m + 1, p1, parts1, t12, t13, t14, h0, h01, h1, odd => prime_proof.B0 k x0_ (prime_proof.L0 k x0_ m) p1 parts1 t12 t13 t14 h0 h01 h1 odd
noncomputable def prime_proof.B2 {R : Type} (k : Nat) (x0_ : Bool → Int → Int → List (Int × Int) → Option R) (x1_ : Int → Int → List (Int × Int) → Option R) (rec_ : Int → List (Int × Int) → Int → Int → Int → List (Int × Int) → List (Unit × Int × Bool) → Option R) (p3 : Int) (parts3 : List (Int × Int)) (g : Int) (h04 : Int) (h05 : Int) (h12 : List (Int × Int)) (odd2 : List (Unit × Int × Bool)) : Option R :=
  bif (decide (g < p3)) then
    (prime_shows.f k (p3, g, parts3) odd2 (fun b =>
      bif b then
        (x0_ true p3 g parts3)
      else
        (prime_one.f k (p3, g, parts3) (IntKind.wrap .u64 (p3 - 1)) (fun b1 =>
          bif (!b1) then
            (x0_ false 0 0 ([]))
          else
            (rec_ p3 parts3 (IntKind.wrap .u64 (g + 1)) h04 h05 h12 odd2)))))
  else
    (x1_ h04 h05 h12)
noncomputable def prime_proof.L2 {R : Type} (k : Nat) (x0_ : Bool → Int → Int → List (Int × Int) → Option R) (x1_ : Int → Int → List (Int × Int) → Option R) : Nat → Int → List (Int × Int) → Int → Int → Int → List (Int × Int) → List (Unit × Int × Bool) → Option R
  | 0, _, _, _, _, _, _, _ => none
  | m + 1, p3, parts3, g, h04, h05, h12, odd2 => prime_proof.B2 k x0_ x1_ (prime_proof.L2 k x0_ x1_ m) p3 parts3 g h04 h05 h12 odd2
noncomputable def prime_proof.f {R : Type} : Nat → Int → (List (Int × Int)) → (Int → Int → List (Int × Int) → Bool → Option R) → Option R
  | 0, _, _, _ => none
  | k + 1, p, parts, ret =>
    prime_proof.L0 k (fun p2 parts2 h02 h03 h11 odd1 =>
      prime_proof.L2 k (fun t5 h06 h07 h08 =>
        ret h06 h07 h08 t5) (fun h09 h010 h13 =>
        ret 0 0 ([]) false) k p2 parts2 1 h02 h03 h11 odd1) k p parts parts (parts.length : Int) 0 0 0 ([]) ([])
noncomputable def prime_proof.T : List (Entry Try.prog Cx pr) := [prime_shows.E, prime_one.E]
abbrev prime_proof.s0 : Sh := ⟨[.one (.int .u64), .one (.vsl tPart), u, u, .one (.ptr0 0 0), u, .one (.ref 2), u, u, u, u, u, .one (.vsl tPart), .one (.int .i64), .one (.int .i64), u, u, u, u, u, u, u, u, u, u, u, u, u, u, u, u, u, u, u, u, u, u, u, u, u, u, u], [.box tProof [.int .u64, .int .u64, .ref 1], .row true 37 tPart, .row true 0 (.pair .unit (.pair (.int .u64) .bool))], []⟩
abbrev prime_proof.e0_0 : Sh := ⟨[.one (.int .u64), .one (.vsl tPart), u, u, .one (.ptr0 0 0), u, .one (.ref 2), u, u, u, u, u, u, u, u, u, u, u, u, u, u, u, u, u, u, u, u, u, u, u, u, u, u, u, u, u, u, u, u, u, u, u], [.box tProof [.int .u64, .int .u64, .ref 1], .row true 37 tPart, .row true 0 (.pair .unit (.pair (.int .u64) .bool))], []⟩
noncomputable def prime_proof.P0 {R : Type} (k : Nat) (K : Ex → St → Option R) (rec_ : prime_proof.s0.den → Option R) (a : prime_proof.s0.den) : Option R := prime_proof.B0 k (fun y0 y1 y2 y3 y4 y5 => K (.exit 0) (prime_proof.e0_0.enc ((y0, y1, (), (), (), (), (), (), (), (), (), (), (), (), (), (), (), (), (), (), (), (), (), (), (), (), (), (), (), (), (), (), (), (), (), (), (), (), (), (), (), (), ()), ((y2, y3, (), ()), y4, y5, ())))) (fun v0 v1 v2 v3 v4 v5 v6 v7 v8 => rec_ ((v0, v1, (), (), (), (), (), (), (), (), (), (), v2, v3, v4, (), (), (), (), (), (), (), (), (), (), (), (), (), (), (), (), (), (), (), (), (), (), (), (), (), (), (), ()), ((v5, v6, (), ()), v7, v8, ()))) a.1.1 a.1.2.1 a.1.2.2.2.2.2.2.2.2.2.2.2.2.1 a.1.2.2.2.2.2.2.2.2.2.2.2.2.2.1 a.1.2.2.2.2.2.2.2.2.2.2.2.2.2.2.1 a.2.1.1 a.2.1.2.1 a.2.2.1 a.2.2.2.1
noncomputable def prime_proof.Q0 {R : Type} (k : Nat) (K : Ex → St → Option R) (m : Nat) (a : prime_proof.s0.den) : Option R := prime_proof.L0 k (fun y0 y1 y2 y3 y4 y5 => K (.exit 0) (prime_proof.e0_0.enc ((y0, y1, (), (), (), (), (), (), (), (), (), (), (), (), (), (), (), (), (), (), (), (), (), (), (), (), (), (), (), (), (), (), (), (), (), (), (), (), (), (), (), (), ()), ((y2, y3, (), ()), y4, y5, ())))) m a.1.1 a.1.2.1 a.1.2.2.2.2.2.2.2.2.2.2.2.2.1 a.1.2.2.2.2.2.2.2.2.2.2.2.2.2.1 a.1.2.2.2.2.2.2.2.2.2.2.2.2.2.2.1 a.2.1.1 a.2.1.2.1 a.2.2.1 a.2.2.2.1
noncomputable def prime_proof.H0 {R : Type} (k : Nat) (st : St) (K : Ex → St → Option R) : Option R := hookL (fun st K => aCode Cx 32 (callT k prime_proof.T) k (lc Try.f32 0) 0 st K) (Cx.hint 32 0) k prime_proof.s0.dec (prime_proof.Q0 k) st K
theorem prime_proof.h0 {R : Type} (k : Nat) (st : St) (K : Ex → St → Option R) : prime_proof.H0 k st K = aCode Cx 32 (callT k prime_proof.T) k (.loop (lc Try.f32 0)) 0 st K :=
  hookL_eq Sh.dec_ok (Φ := prime_proof.P0 k) (fun K a => rfl) (fun K m a => rfl) (fun K m a => loop_step (hookOf []) (allL (l' := []) (by kernel_rfl) trivial) K m _ (by kernel_rfl)) st K
abbrev prime_proof.s2 : Sh := ⟨[.one (.int .u64), .one (.vsl tPart), u, u, .one (.ptr0 0 0), u, .one (.ref 2), u, u, .one (.int .u64), u, u, u, u, u, u, u, u, u, u, u, u, u, u, u, u, u, u, u, u, u, u, u, u, u, u, u, u, u, u, u, u], [.box tProof [.int .u64, .int .u64, .ref 1], .row true 37 tPart, .row true 0 (.pair .unit (.pair (.int .u64) .bool))], []⟩
abbrev prime_proof.e2_0 : Sh := ⟨[u, u, u, u, .one (.ptr0 0 0), .one (.bool), u, u, u, u, u, u, u, u, u, u, u, u, u, u, u, u, u, u, u, u, u, u, u, u, u, u, u, u, u, u, u, u, u, u, u, u], [.box tProof [.int .u64, .int .u64, .vsl tPart]], []⟩
abbrev prime_proof.e2_1 : Sh := ⟨[u, u, u, u, .one (.ptr0 0 0), u, u, u, u, u, u, u, u, u, u, u, u, u, u, u, u, u, u, u, u, u, u, u, u, u, u, u, u, u, u, u, u, u, u, u, u, u], [.box tProof [.int .u64, .int .u64, .ref 1], .row true 37 tPart], []⟩
noncomputable def prime_proof.P2 {R : Type} (k : Nat) (K : Ex → St → Option R) (rec_ : prime_proof.s2.den → Option R) (a : prime_proof.s2.den) : Option R := prime_proof.B2 k (fun y0 y1 y2 y3 => K .ret (prime_proof.e2_0.enc (((), (), (), (), (), y0, (), (), (), (), (), (), (), (), (), (), (), (), (), (), (), (), (), (), (), (), (), (), (), (), (), (), (), (), (), (), (), (), (), (), (), (), ()), ((y1, y2, y3, ()), ())))) (fun y0 y1 y2 => K (.exit 2) (prime_proof.e2_1.enc (((), (), (), (), (), (), (), (), (), (), (), (), (), (), (), (), (), (), (), (), (), (), (), (), (), (), (), (), (), (), (), (), (), (), (), (), (), (), (), (), (), (), ()), ((y0, y1, (), ()), y2, ())))) (fun v0 v1 v2 v3 v4 v5 v6 => rec_ ((v0, v1, (), (), (), (), (), (), (), v2, (), (), (), (), (), (), (), (), (), (), (), (), (), (), (), (), (), (), (), (), (), (), (), (), (), (), (), (), (), (), (), (), ()), ((v3, v4, (), ()), v5, v6, ()))) a.1.1 a.1.2.1 a.1.2.2.2.2.2.2.2.2.2.1 a.2.1.1 a.2.1.2.1 a.2.2.1 a.2.2.2.1
noncomputable def prime_proof.Q2 {R : Type} (k : Nat) (K : Ex → St → Option R) (m : Nat) (a : prime_proof.s2.den) : Option R := prime_proof.L2 k (fun y0 y1 y2 y3 => K .ret (prime_proof.e2_0.enc (((), (), (), (), (), y0, (), (), (), (), (), (), (), (), (), (), (), (), (), (), (), (), (), (), (), (), (), (), (), (), (), (), (), (), (), (), (), (), (), (), (), (), ()), ((y1, y2, y3, ()), ())))) (fun y0 y1 y2 => K (.exit 2) (prime_proof.e2_1.enc (((), (), (), (), (), (), (), (), (), (), (), (), (), (), (), (), (), (), (), (), (), (), (), (), (), (), (), (), (), (), (), (), (), (), (), (), (), (), (), (), (), (), ()), ((y0, y1, (), ()), y2, ())))) m a.1.1 a.1.2.1 a.1.2.2.2.2.2.2.2.2.2.1 a.2.1.1 a.2.1.2.1 a.2.2.1 a.2.2.2.1
noncomputable def prime_proof.H2 {R : Type} (k : Nat) (st : St) (K : Ex → St → Option R) : Option R := hookL (fun st K => aCode Cx 32 (callT k prime_proof.T) k (lc Try.f32 2) 2 st K) (Cx.hint 32 2) k prime_proof.s2.dec (prime_proof.Q2 k) st K
theorem prime_proof.h2 {R : Type} (k : Nat) (st : St) (K : Ex → St → Option R) : prime_proof.H2 k st K = aCode Cx 32 (callT k prime_proof.T) k (.loop (lc Try.f32 2)) 2 st K :=
  hookL_eq Sh.dec_ok (Φ := prime_proof.P2 k) (fun K a => rfl) (fun K m a => rfl) (fun K m a => loop_step (hookOf []) (allL (l' := []) (by kernel_rfl) trivial) K m _ (by kernel_rfl)) st K
abbrev prime_proof.as : List AS := [.ty (.int .u64), .ty (.sl tPart)]
abbrev prime_proof.hs : List SS := []
abbrev prime_proof.rts : List CV := []
abbrev prime_proof.rs : VS := .tup [(true, [.int .u64, .int .u64, .vsl tPart]), (false, [.bool])]
noncomputable def prime_proof.g : Nat → {R : Type} → HA prime_proof.as × HS prime_proof.hs → (prime_proof.rs.den → Option R) → Option R := fun k {R} a ret => prime_proof.f k a.1.1 a.1.2.1 (fun y0 y1 y2 y3 => ret ((y0, y1, y2, ()), (y3, ()), ()))
noncomputable def prime_proof.E : Entry Try.prog Cx pr where
  id := 32
  args := prime_proof.as
  heap := prime_proof.hs
  roots := prime_proof.rts
  res := prime_proof.rs
  f := prime_proof.g
  ok := entry_ok (args := prime_proof.as) (heap := prime_proof.hs) (roots := prime_proof.rts) (res := prime_proof.rs) (f := prime_proof.g) rfl Try.func32 prime_proof.T rfl (fun a K => rfl) (fun k {R} a K => fun_step (c := (Try.f32.body).getD .skip) (by kernel_rfl) (hookOf [(0, prime_proof.H0 k), (2, prime_proof.H2 k)]) (allL (l' := [(0, lc Try.f32 0), (2, lc Try.f32 2)]) (by kernel_rfl) ⟨prime_proof.h0 k, prime_proof.h2 k, trivial⟩) _ K (by kernel_rfl))

/-! ### slices.SortFunc[[]affidavit/api.Proof,affidavit/api.Proof]: function 33 -/
noncomputable def slices_SortFunc.f {R : Type} (k : Nat) (l : List tProof.den) (ret : List tProof.den → Option R) : Option R := primK (sortL (fun x : tProof.den => x.1)) k l ret
abbrev slices_SortFunc.as : List AS := [.cel (.ref 0), .fn 34 [] []]
abbrev slices_SortFunc.hs : List SS := [.row true 42 tProof]
abbrev slices_SortFunc.rts : List CV := [.ref 0]
abbrev slices_SortFunc.rs : VS := .tup [(false, [.own 42 tProof])]
noncomputable def slices_SortFunc.g : Nat → {R : Type} → HA slices_SortFunc.as × HS slices_SortFunc.hs → (slices_SortFunc.rs.den → Option R) → Option R := fun k {R} a ret => slices_SortFunc.f k a.2.1 (fun y0 => ret ((y0, ()), ()))
noncomputable def slices_SortFunc.E : Entry Try.prog Cx pr where
  id := 33
  args := slices_SortFunc.as
  heap := slices_SortFunc.hs
  roots := slices_SortFunc.rts
  res := slices_SortFunc.rs
  f := slices_SortFunc.g
  ok := entry_prim (id := 33) (args := slices_SortFunc.as) (heap := slices_SortFunc.hs) (roots := slices_SortFunc.rts) (res := slices_SortFunc.rs) (g := fun a : HA slices_SortFunc.as × HS slices_SortFunc.hs => sortL (fun x : tProof.den => x.1) a.2.1) (fun ys => ((ys, ()), ())) rfl (fun a => sortF_eq)

/-! ### affidavit/prime.Build: function 21 -/
noncomputable def prime_Build.B2 {R : Type} (k : Nat) (x0_ : List (Unit × Int × Int × Int × List (Int × Int)) → List Int → Option R) (rec_ : Int → Int → List (Unit × Int × Int × Int × List (Int × Int)) → List Int → List (Int × Int) → Option R) (t67 : Int) (t68 : Int) (done1 : List (Unit × Int × Int × Int × List (Int × Int))) (left1 : List Int) (h2 : List (Int × Int)) : Option R :=
  bif (decide (t68 < t67)) then
    (bif (decide (0 ≤ t68) && decide (t68 < (h2.length : Int))) then (bif (decide ((left1 ++ ([(h2.getD t68.toNat (0, 0)).1] : List Int)).length < 1099511627776)) then (rec_ t67 (IntKind.wrap .i64 (t68 + 1)) done1 (left1 ++ ([(h2.getD t68.toNat (0, 0)).1] : List Int)) h2) else none) else none)
  else
    (x0_ done1 left1)
noncomputable def prime_Build.L2 {R : Type} (k : Nat) (x0_ : List (Unit × Int × Int × Int × List (Int × Int)) → List Int → Option R) : Nat → Int → Int → List (Unit × Int × Int × Int × List (Int × Int)) → List Int → List (Int × Int) → Option R
  | 0, _, _, _, _, _ => none
  | m + 1, t67, t68, done1, left1, h2 => prime_Build.B2 k x0_ (prime_Build.L2 k x0_ m) t67 t68 done1 left1 h2
noncomputable def prime_Build.B0 {R : Type} (k : Nat) (x0_ : Int → List (Int × Int × List (Int × Int)) → Option R) (x1_ : List (Unit × Int × Int × Int × List (Int × Int)) → Option R) (rec_ : List (Unit × Int × Int × Int × List (Int × Int)) → List Int → Option R) (done : List (Unit × Int × Int × Int × List (Int × Int))) (left : List Int) : Option R :=
  bif (decide ((left.length : Int) > 0)) then
    (bif (decide (0 ≤ (0 : Int)) && decide (0 < (left.length : Int))) then (bif (Am.mhas done (left.getD ((0 : Int).toNat) (0 : Int))) then
      (bif (decide (0 ≤ (1 : Int)) && decide (1 ≤ (left.length : Int))) then (rec_ done ((left.drop ((1 : Int).toNat)).take ((left.length : Int).toNat - (1 : Int).toNat))) else none)
    else
      (bif ((left.getD ((0 : Int).toNat) (0 : Int)) == 2) then
        (bif (decide (0 ≤ (1 : Int)) && decide (1 ≤ (left.length : Int))) then (rec_ done ((left.drop ((1 : Int).toNat)).take ((left.length : Int).toNat - (1 : Int).toNat))) else none)
      else
        (prime_Parts.f k (IntKind.wrap .u64 ((left.getD ((0 : Int).toNat) (0 : Int)) - 1)) (fun l n =>
          bif (n != 0) then
            (x0_ n ([]))
          else
            (prime_proof.f k (left.getD ((0 : Int).toNat) (0 : Int)) l (fun n1 n2 l1 b =>
              bif (!b) then
                (x0_ 6 ([]))
              else
                (prime_Build.L2 k (fun done2 left2 =>
                  bif (decide (0 ≤ (1 : Int)) && decide (1 ≤ (left2.length : Int))) then (rec_ done2 ((left2.drop ((1 : Int).toNat)).take ((left2.length : Int).toNat - (1 : Int).toNat))) else none) k (l.length : Int) 0 (Am.mset done (left.getD ((0 : Int).toNat) (0 : Int)) (n1, n2, l1)) left l))))))) else none)
  else
    (x1_ done)
noncomputable def prime_Build.L0 {R : Type} (k : Nat) (x0_ : Int → List (Int × Int × List (Int × Int)) → Option R) (x1_ : List (Unit × Int × Int × Int × List (Int × Int)) → Option R) : Nat → List (Unit × Int × Int × Int × List (Int × Int)) → List Int → Option R
  | 0, _, _ => none
  | m + 1, done, left => prime_Build.B0 k x0_ x1_ (prime_Build.L0 k x0_ x1_ m) done left
noncomputable def prime_Build.B4 {R : Type} (k : Nat) (x0_ : List (Int × Int × List (Int × Int)) → Option R) (rec_ : List (Int × Int × List (Int × Int)) → List (Unit × Int × Int × Int × List (Int × Int)) → List Nat → Option R) (out : List (Int × Int × List (Int × Int))) (h1 : List (Unit × Int × Int × Int × List (Int × Int))) (seen : List Nat) : Option R :=
  Am.pickAll h1 seen
    (x0_ out)
    (fun i e_ =>
      bif (!(seen ++ [i]).isEmpty) then (bif (decide ((out ++ ([(((Am.cur (0, 0, []) h1 (seen ++ [i])).2.2).1, (((Am.cur (0, 0, []) h1 (seen ++ [i])).2.2).2))] : List (Int × Int × List (Int × Int)))).length < 1099511627776)) then (rec_ (out ++ ([(((Am.cur (0, 0, []) h1 (seen ++ [i])).2.2).1, (((Am.cur (0, 0, []) h1 (seen ++ [i])).2.2).2))] : List (Int × Int × List (Int × Int)))) h1 (seen ++ [i])) else none) else none)
noncomputable def prime_Build.L4 {R : Type} (k : Nat) (x0_ : List (Int × Int × List (Int × Int)) → Option R) : Nat → List (Int × Int × List (Int × Int)) → List (Unit × Int × Int × Int × List (Int × Int)) → List Nat → Option R
  | 0, _, _, _ => none
  | m + 1, out, h1, seen => prime_Build.B4 k x0_ (prime_Build.L4 k x0_ m) out h1 seen
noncomputable def prime_Build.r {R : Type} : Nat → Int → (List (Int × Int × List (Int × Int)) → Int → Option R) → Option R
  | 0, _, _ => none
  | k + 1, p, ret =>
    bif (decide (p < 2)) then
      (ret ([]) 1)
    else
      (bif (decide (p ≥ 9223372036854775808)) then
        (ret ([]) 1)
      else
        (prime_Build.L0 k (fun t3 h0 =>
          ret h0 t3) (fun done3 =>
          prime_Build.L4 k (fun out1 =>
            slices_SortFunc.f k out1 (fun l2 =>
              ret l2 0)) k ([]) done3 ([])) k ([]) ([p] : List Int)))
noncomputable def prime_Build.T : List (Entry Try.prog Cx pr) := [prime_Parts.E, prime_proof.E, slices_SortFunc.E]
abbrev prime_Build.s2 : Sh := ⟨[u, u, u, u, .one (.ref 0), .one (.ref 1), u, u, u, u, u, u, u, u, u, u, u, u, u, u, u, u, u, u, u, u, u, u, u, u, u, u, u, u, u, u, u, u, u, u, u, u, u, u, u, u, u, u, u, u, u, u, u, u, u, u, u, u, u, u, u, u, u, u, u, u, .one (.ref 2), .one (.int .i64), .one (.int .i64), u, u, u, u, u, u, u, u, u, u, u, u, u, u, u, u, u, u, u, u, u, u], [.row true 0 (.pair .unit (.pair (.int .u64) tProof)), .row true 23 (.int .u64), .row false 37 tPart], []⟩
abbrev prime_Build.e2_0 : Sh := ⟨[u, u, u, u, .one (.ref 0), .one (.ref 1), u, u, u, u, u, u, u, u, u, u, u, u, u, u, u, u, u, u, u, u, u, u, u, u, u, u, u, u, u, u, u, u, u, u, u, u, u, u, u, u, u, u, u, u, u, u, u, u, u, u, u, u, u, u, u, u, u, u, u, u, u, u, u, u, u, u, u, u, u, u, u, u, u, u, u, u, u, u, u, u, u, u, u, u, u], [.row true 0 (.pair .unit (.pair (.int .u64) tProof)), .row true 23 (.int .u64)], []⟩
noncomputable def prime_Build.P2 {R : Type} (k : Nat) (K : Ex → St → Option R) (rec_ : prime_Build.s2.den → Option R) (a : prime_Build.s2.den) : Option R := prime_Build.B2 k (fun y0 y1 => K (.exit 2) (prime_Build.e2_0.enc (((), (), (), (), (), (), (), (), (), (), (), (), (), (), (), (), (), (), (), (), (), (), (), (), (), (), (), (), (), (), (), (), (), (), (), (), (), (), (), (), (), (), (), (), (), (), (), (), (), (), (), (), (), (), (), (), (), (), (), (), (), (), (), (), (), (), (), (), (), (), (), (), (), (), (), (), (), (), (), (), (), (), (), (), (), (), (), (), (), (), (), ()), (y0, y1, ())))) (fun v0 v1 v2 v3 v4 => rec_ (((), (), (), (), (), (), (), (), (), (), (), (), (), (), (), (), (), (), (), (), (), (), (), (), (), (), (), (), (), (), (), (), (), (), (), (), (), (), (), (), (), (), (), (), (), (), (), (), (), (), (), (), (), (), (), (), (), (), (), (), (), (), (), (), (), (), (), v0, v1, (), (), (), (), (), (), (), (), (), (), (), (), (), (), (), (), (), (), (), (), (), (), ()), (v2, v3, v4, ()))) a.1.2.2.2.2.2.2.2.2.2.2.2.2.2.2.2.2.2.2.2.2.2.2.2.2.2.2.2.2.2.2.2.2.2.2.2.2.2.2.2.2.2.2.2.2.2.2.2.2.2.2.2.2.2.2.2.2.2.2.2.2.2.2.2.2.2.2.2.1 a.1.2.2.2.2.2.2.2.2.2.2.2.2.2.2.2.2.2.2.2.2.2.2.2.2.2.2.2.2.2.2.2.2.2.2.2.2.2.2.2.2.2.2.2.2.2.2.2.2.2.2.2.2.2.2.2.2.2.2.2.2.2.2.2.2.2.2.2.2.1 a.2.1 a.2.2.1 a.2.2.2.1
noncomputable def prime_Build.Q2 {R : Type} (k : Nat) (K : Ex → St → Option R) (m : Nat) (a : prime_Build.s2.den) : Option R := prime_Build.L2 k (fun y0 y1 => K (.exit 2) (prime_Build.e2_0.enc (((), (), (), (), (), (), (), (), (), (), (), (), (), (), (), (), (), (), (), (), (), (), (), (), (), (), (), (), (), (), (), (), (), (), (), (), (), (), (), (), (), (), (), (), (), (), (), (), (), (), (), (), (), (), (), (), (), (), (), (), (), (), (), (), (), (), (), (), (), (), (), (), (), (), (), (), (), (), (), (), (), (), (), (), (), (), (), (), (), (), (), ()), (y0, y1, ())))) m a.1.2.2.2.2.2.2.2.2.2.2.2.2.2.2.2.2.2.2.2.2.2.2.2.2.2.2.2.2.2.2.2.2.2.2.2.2.2.2.2.2.2.2.2.2.2.2.2.2.2.2.2.2.2.2.2.2.2.2.2.2.2.2.2.2.2.2.2.1 a.1.2.2.2.2.2.2.2.2.2.2.2.2.2.2.2.2.2.2.2.2.2.2.2.2.2.2.2.2.2.2.2.2.2.2.2.2.2.2.2.2.2.2.2.2.2.2.2.2.2.2.2.2.2.2.2.2.2.2.2.2.2.2.2.2.2.2.2.2.1 a.2.1 a.2.2.1 a.2.2.2.1
noncomputable def prime_Build.H2 {R : Type} (k : Nat) (st : St) (K : Ex → St → Option R) : Option R := hookL (fun st K => aCode Cx.on 21 (callT k prime_Build.T) k (lc Try.f21 2) 2 st K) (Cx.on.hint 21 2) k prime_Build.s2.dec (prime_Build.Q2 k) st K
theorem prime_Build.h2 {R : Type} (k : Nat) (st : St) (K : Ex → St → Option R) : prime_Build.H2 k st K = aCode Cx.on 21 (callT k prime_Build.T) k (.loop (lc Try.f21 2)) 2 st K :=
  hookL_eq Sh.dec_ok (Φ := prime_Build.P2 k) (fun K a => rfl) (fun K m a => rfl) (fun K m a => loop_step (hookOf []) (allL (l' := []) (by kernel_rfl) trivial) K m _ (by kernel_rfl)) st K
abbrev prime_Build.s0 : Sh := ⟨[u, u, u, u, .one (.ref 0), .one (.ref 1), u, u, u, u, u, u, u, u, u, u, u, u, u, u, u, u, u, u, u, u, u, u, u, u, u, u, u, u, u, u, u, u, u, u, u, u, u, u, u, u, u, u, u, u, u, u, u, u, u, u, u, u, u, u, u, u, u, u, u, u, u, u, u, u, u, u, u, u, u, u, u, u, u, u, u, u, u, u, u, u, u, u, u, u, u], [.row true 0 (.pair .unit (.pair (.int .u64) tProof)), .row true 23 (.int .u64)], []⟩
abbrev prime_Build.e0_0 : Sh := ⟨[u, u, .one (.ref 0), .one (.int .i64), u, u, u, u, u, u, u, u, u, u, u, u, u, u, u, u, u, u, u, u, u, u, u, u, u, u, u, u, u, u, u, u, u, u, u, u, u, u, u, u, u, u, u, u, u, u, u, u, u, u, u, u, u, u, u, u, u, u, u, u, u, u, u, u, u, u, u, u, u, u, u, u, u, u, u, u, u, u, u, u, u, u, u, u, u, u, u], [.row true 42 tProof], []⟩
abbrev prime_Build.e0_1 : Sh := ⟨[u, u, u, u, .one (.ref 0), u, u, u, u, u, u, u, u, u, u, u, u, u, u, u, u, u, u, u, u, u, u, u, u, u, u, u, u, u, u, u, u, u, u, u, u, u, u, u, u, u, u, u, u, u, u, u, u, u, u, u, u, u, u, u, u, u, u, u, u, u, u, u, u, u, u, u, u, u, u, u, u, u, u, u, u, u, u, u, u, u, u, u, u, u, u], [.row true 0 (.pair .unit (.pair (.int .u64) tProof))], []⟩
noncomputable def prime_Build.P0 {R : Type} (k : Nat) (K : Ex → St → Option R) (rec_ : prime_Build.s0.den → Option R) (a : prime_Build.s0.den) : Option R := prime_Build.B0 k (fun y0 y1 => K .ret (prime_Build.e0_0.enc (((), (), (), y0, (), (), (), (), (), (), (), (), (), (), (), (), (), (), (), (), (), (), (), (), (), (), (), (), (), (), (), (), (), (), (), (), (), (), (), (), (), (), (), (), (), (), (), (), (), (), (), (), (), (), (), (), (), (), (), (), (), (), (), (), (), (), (), (), (), (), (), (), (), (), (), (), (), (), (), (), (), (), (), (), (), (), (), (), (), (), (), ()), (y1, ())))) (fun y0 => K (.exit 0) (prime_Build.e0_1.enc (((), (), (), (), (), (), (), (), (), (), (), (), (), (), (), (), (), (), (), (), (), (), (), (), (), (), (), (), (), (), (), (), (), (), (), (), (), (), (), (), (), (), (), (), (), (), (), (), (), (), (), (), (), (), (), (), (), (), (), (), (), (), (), (), (), (), (), (), (), (), (), (), (), (), (), (), (), (), (), (), (), (), (), (), (), (), (), (), (), (), (), ()), (y0, ())))) (fun v0 v1 => rec_ (((), (), (), (), (), (), (), (), (), (), (), (), (), (), (), (), (), (), (), (), (), (), (), (), (), (), (), (), (), (), (), (), (), (), (), (), (), (), (), (), (), (), (), (), (), (), (), (), (), (), (), (), (), (), (), (), (), (), (), (), (), (), (), (), (), (), (), (), (), (), (), (), (), (), (), (), (), (), (), (), (), (), (), (), (), (), (), (), (), (), (), ()), (v0, v1, ()))) a.2.1 a.2.2.1
noncomputable def prime_Build.Q0 {R : Type} (k : Nat) (K : Ex → St → Option R) (m : Nat) (a : prime_Build.s0.den) : Option R := prime_Build.L0 k (fun y0 y1 => K .ret (prime_Build.e0_0.enc (((), (), (), y0, (), (), (), (), (), (), (), (), (), (), (), (), (), (), (), (), (), (), (), (), (), (), (), (), (), (), (), (), (), (), (), (), (), (), (), (), (), (), (), (), (), (), (), (), (), (), (), (), (), (), (), (), (), (), (), (), (), (), (), (), (), (), (), (), (), (), (), (), (), (), (), (), (), (), (), (), (), (), (), (), (), (), (), (), (), (), (), ()), (y1, ())))) (fun y0 => K (.exit 0) (prime_Build.e0_1.enc (((), (), (), (), (), (), (), (), (), (), (), (), (), (), (), (), (), (), (), (), (), (), (), (), (), (), (), (), (), (), (), (), (), (), (), (), (), (), (), (), (), (), (), (), (), (), (), (), (), (), (), (), (), (), (), (), (), (), (), (), (), (), (), (), (), (), (), (), (), (), (), (), (), (), (), (), (), (), (), (), (), (), (), (), (), (), (), (), (), (), (), ()), (y0, ())))) m a.2.1 a.2.2.1
noncomputable def prime_Build.H0 {R : Type} (k : Nat) (st : St) (K : Ex → St → Option R) : Option R := hookL (fun st K => aCode Cx.on 21 (callT k prime_Build.T) k (lc Try.f21 0) 0 st K) (Cx.on.hint 21 0) k prime_Build.s0.dec (prime_Build.Q0 k) st K
theorem prime_Build.h0 {R : Type} (k : Nat) (st : St) (K : Ex → St → Option R) : prime_Build.H0 k st K = aCode Cx.on 21 (callT k prime_Build.T) k (.loop (lc Try.f21 0)) 0 st K :=
  hookL_eq Sh.dec_ok (Φ := prime_Build.P0 k) (fun K a => rfl) (fun K m a => rfl) (fun K m a => loop_step (hookOf [(2, prime_Build.H2 k)]) (allL (l' := [(2, lc Try.f21 2)]) (by kernel_rfl) ⟨prime_Build.h2 k, trivial⟩) K m _ (by kernel_rfl)) st K
abbrev prime_Build.s4 : Sh := ⟨[u, u, u, u, u, u, u, u, u, u, u, u, u, u, u, .one (.ref 0), u, u, u, u, u, u, u, u, u, u, u, u, u, u, u, u, u, u, u, u, u, u, u, u, u, u, u, u, u, u, u, u, u, u, u, u, u, u, u, u, u, u, u, u, u, u, u, u, u, u, u, u, u, u, u, u, u, u, u, u, u, u, u, .one (.ref 1), u, u, u, u, u, u, u, u, u, u, u], [.row true 42 tProof, .iter .u64 tProof], []⟩
abbrev prime_Build.e4_0 : Sh := ⟨[u, u, u, u, u, u, u, u, u, u, u, u, u, u, u, .one (.ref 0), u, u, u, u, u, u, u, u, u, u, u, u, u, u, u, u, u, u, u, u, u, u, u, u, u, u, u, u, u, u, u, u, u, u, u, u, u, u, u, u, u, u, u, u, u, u, u, u, u, u, u, u, u, u, u, u, u, u, u, u, u, u, u, u, u, u, u, u, u, u, u, u, u, u, u], [.row true 42 tProof], []⟩
noncomputable def prime_Build.P4 {R : Type} (k : Nat) (K : Ex → St → Option R) (rec_ : prime_Build.s4.den → Option R) (a : prime_Build.s4.den) : Option R := prime_Build.B4 k (fun y0 => K (.exit 4) (prime_Build.e4_0.enc (((), (), (), (), (), (), (), (), (), (), (), (), (), (), (), (), (), (), (), (), (), (), (), (), (), (), (), (), (), (), (), (), (), (), (), (), (), (), (), (), (), (), (), (), (), (), (), (), (), (), (), (), (), (), (), (), (), (), (), (), (), (), (), (), (), (), (), (), (), (), (), (), (), (), (), (), (), (), (), (), (), (), (), (), (), (), (), (), (), (), (), ()), (y0, ())))) (fun v0 v1 v2 => rec_ (((), (), (), (), (), (), (), (), (), (), (), (), (), (), (), (), (), (), (), (), (), (), (), (), (), (), (), (), (), (), (), (), (), (), (), (), (), (), (), (), (), (), (), (), (), (), (), (), (), (), (), (), (), (), (), (), (), (), (), (), (), (), (), (), (), (), (), (), (), (), (), (), (), (), (), (), (), (), (), (), (), (), (), (), (), (), (), (), (), (), (), ()), (v0, (v1, v2), ()))) a.2.1 a.2.2.1.1 a.2.2.1.2
noncomputable def prime_Build.Q4 {R : Type} (k : Nat) (K : Ex → St → Option R) (m : Nat) (a : prime_Build.s4.den) : Option R := prime_Build.L4 k (fun y0 => K (.exit 4) (prime_Build.e4_0.enc (((), (), (), (), (), (), (), (), (), (), (), (), (), (), (), (), (), (), (), (), (), (), (), (), (), (), (), (), (), (), (), (), (), (), (), (), (), (), (), (), (), (), (), (), (), (), (), (), (), (), (), (), (), (), (), (), (), (), (), (), (), (), (), (), (), (), (), (), (), (), (), (), (), (), (), (), (), (), (), (), (), (), (), (), (), (), (), (), (), (), (), ()), (y0, ())))) m a.2.1 a.2.2.1.1 a.2.2.1.2
noncomputable def prime_Build.H4 {R : Type} (k : Nat) (st : St) (K : Ex → St → Option R) : Option R := hookL (fun st K => aCode Cx.on 21 (callT k prime_Build.T) k (lc Try.f21 4) 4 st K) (Cx.on.hint 21 4) k prime_Build.s4.dec (prime_Build.Q4 k) st K
theorem prime_Build.h4 {R : Type} (k : Nat) (st : St) (K : Ex → St → Option R) : prime_Build.H4 k st K = aCode Cx.on 21 (callT k prime_Build.T) k (.loop (lc Try.f21 4)) 4 st K :=
  hookL_eq Sh.dec_ok (Φ := prime_Build.P4 k) (fun K a => rfl) (fun K m a => rfl) (fun K m a => loop_step (hookOf []) (allL (l' := []) (by kernel_rfl) trivial) K m _ (by kernel_rfl)) st K
abbrev prime_Build.as : List AS := [.ty (.int .u64)]
abbrev prime_Build.hs : List SS := []
abbrev prime_Build.rts : List CV := []
abbrev prime_Build.rs : VS := .tup [(false, [.own 42 tProof]), (false, [.int .i64])]
noncomputable def prime_Build.w (k : Nat) (a : HA prime_Build.as × HS prime_Build.hs) (ret : prime_Build.rs.den → Option AV) : Option AV := prime_Build.r k a.1.1 (fun y0 y1 => ret ((y0, ()), (y1, ()), ()))
noncomputable def prime_Build.f {R : Type} (k : Nat) (p : Int) (ret : List (Int × Int × List (Int × Int)) → Int → Option R) : Option R := ndF prime_Build.rs (fun L => prime_Build.r k p (fun y0 y1 => L (prime_Build.rs.enc ((y0, ()), (y1, ()), ())))) (fun b => ret b.1.1 b.2.1.1)
noncomputable def prime_Build.g : Nat → {R : Type} → HA prime_Build.as × HS prime_Build.hs → (prime_Build.rs.den → Option R) → Option R := fun k {R} a ret => ndF prime_Build.rs (fun L => prime_Build.w k a fun b => L (prime_Build.rs.enc b)) ret
noncomputable def prime_Build.E : Entry Try.prog Cx pr where
  id := 21
  args := prime_Build.as
  heap := prime_Build.hs
  roots := prime_Build.rts
  res := prime_Build.rs
  f := prime_Build.g
  ok := entry_nd (args := prime_Build.as) (heap := prime_Build.hs) (roots := prime_Build.rts) (res := prime_Build.rs) (raw := prime_Build.w) rfl Try.func21 prime_Build.T rfl (fun a K => rfl) (fun k a K => fun_step (C := Cx.on) (c := (Try.f21.body).getD .skip) (by kernel_rfl) (hookOf [(0, prime_Build.H0 k), (4, prime_Build.H4 k)]) (allL (l' := [(0, lc Try.f21 0), (4, lc Try.f21 4)]) (by kernel_rfl) ⟨prime_Build.h0 k, prime_Build.h4 k, trivial⟩) _ K (by kernel_rfl))

/-! ### affidavit/prime.First: function 12 -/
noncomputable def prime_First.B0 {R : Type} (k : Nat) (x0_ : Int → Option R) (x1_ : List (Int × Int × List (Int × Int)) → Option R) (rec_ : List (Int × Int × List (Int × Int)) → List (Int × Int × List (Int × Int)) → Int → Int → List (Unit × Int × Bool) → Option R) (l1 : List (Int × Int × List (Int × Int))) (t8 : List (Int × Int × List (Int × Int))) (t9 : Int) (t10 : Int) (known : List (Unit × Int × Bool)) : Option R :=
  bif (decide (t10 < t9)) then
    (bif (decide (0 ≤ t10) && decide (t10 < (t8.length : Int))) then (bif (t10 == 200) then
      (x0_ t10)
    else
      (bif (decide (t10 > 0)) then
        (bif (decide (0 ≤ (IntKind.wrap .i64 (t10 - 1))) && decide ((IntKind.wrap .i64 (t10 - 1)) < (l1.length : Int))) then (bif (decide (((l1.getD (IntKind.wrap .i64 (t10 - 1)).toNat (0, 0, [])).1) ≥ (t8.getD t10.toNat (0, 0, [])).1)) then
          (x0_ t10)
        else
          (prime_shows.f k ((t8.getD t10.toNat (0, 0, [])).1, ((t8.getD t10.toNat (0, 0, [])).2)) known (fun b =>
            bif (!b) then
              (x0_ t10)
            else
              (rec_ l1 t8 t9 (IntKind.wrap .i64 (t10 + 1)) (Am.mset known ((t8.getD t10.toNat (0, 0, [])).1) true))))) else none)
      else
        (prime_shows.f k ((t8.getD t10.toNat (0, 0, [])).1, ((t8.getD t10.toNat (0, 0, [])).2)) known (fun b1 =>
          bif (!b1) then
            (x0_ t10)
          else
            (rec_ l1 t8 t9 (IntKind.wrap .i64 (t10 + 1)) (Am.mset known ((t8.getD t10.toNat (0, 0, [])).1) true)))))) else none)
  else
    (x1_ l1)
noncomputable def prime_First.L0 {R : Type} (k : Nat) (x0_ : Int → Option R) (x1_ : List (Int × Int × List (Int × Int)) → Option R) : Nat → List (Int × Int × List (Int × Int)) → List (Int × Int × List (Int × Int)) → Int → Int → List (Unit × Int × Bool) → Option R
  | 0, _, _, _, _, _ => none
  | m + 1, l1, t8, t9, t10, known => prime_First.B0 k x0_ x1_ (prime_First.L0 k x0_ x1_ m) l1 t8 t9 t10 known
noncomputable def prime_First.f {R : Type} : Nat → (List (Int × Int × List (Int × Int))) → (Int → Option R) → Option R
  | 0, _, _ => none
  | k + 1, l, ret =>
    prime_First.L0 k (fun t2 =>
      ret t2) (fun l2 =>
      ret (l2.length : Int)) k l l (l.length : Int) 0 (Am.mset ([]) 2 true)
noncomputable def prime_First.T : List (Entry Try.prog Cx pr) := [prime_shows.E]
abbrev prime_First.s0 : Sh := ⟨[.one (.vsl tProof), u, u, .one (.ref 0), u, u, u, u, .one (.vsl tProof), .one (.int .i64), .one (.int .i64), u, u, u, u, u, u, u, u, u, u, u, u, u, u, u, u, u, u, u, u, u, u, u, u, u, u, u, u, u, u, u, u, u, u], [.row true 0 (.pair .unit (.pair (.int .u64) .bool))], []⟩
abbrev prime_First.e0_0 : Sh := ⟨[u, u, .one (.int .i64), u, u, u, u, u, u, u, u, u, u, u, u, u, u, u, u, u, u, u, u, u, u, u, u, u, u, u, u, u, u, u, u, u, u, u, u, u, u, u, u, u, u], [], []⟩
abbrev prime_First.e0_1 : Sh := ⟨[.one (.vsl tProof), u, u, u, u, u, u, u, u, u, u, u, u, u, u, u, u, u, u, u, u, u, u, u, u, u, u, u, u, u, u, u, u, u, u, u, u, u, u, u, u, u, u, u, u], [], []⟩
noncomputable def prime_First.P0 {R : Type} (k : Nat) (K : Ex → St → Option R) (rec_ : prime_First.s0.den → Option R) (a : prime_First.s0.den) : Option R := prime_First.B0 k (fun y0 => K .ret (prime_First.e0_0.enc (((), (), y0, (), (), (), (), (), (), (), (), (), (), (), (), (), (), (), (), (), (), (), (), (), (), (), (), (), (), (), (), (), (), (), (), (), (), (), (), (), (), (), (), (), (), ()), ()))) (fun y0 => K (.exit 0) (prime_First.e0_1.enc ((y0, (), (), (), (), (), (), (), (), (), (), (), (), (), (), (), (), (), (), (), (), (), (), (), (), (), (), (), (), (), (), (), (), (), (), (), (), (), (), (), (), (), (), (), (), ()), ()))) (fun v0 v1 v2 v3 v4 => rec_ ((v0, (), (), (), (), (), (), (), v1, v2, v3, (), (), (), (), (), (), (), (), (), (), (), (), (), (), (), (), (), (), (), (), (), (), (), (), (), (), (), (), (), (), (), (), (), (), ()), (v4, ()))) a.1.1 a.1.2.2.2.2.2.2.2.2.1 a.1.2.2.2.2.2.2.2.2.2.1 a.1.2.2.2.2.2.2.2.2.2.2.1 a.2.1
noncomputable def prime_First.Q0 {R : Type} (k : Nat) (K : Ex → St → Option R) (m : Nat) (a : prime_First.s0.den) : Option R := prime_First.L0 k (fun y0 => K .ret (prime_First.e0_0.enc (((), (), y0, (), (), (), (), (), (), (), (), (), (), (), (), (), (), (), (), (), (), (), (), (), (), (), (), (), (), (), (), (), (), (), (), (), (), (), (), (), (), (), (), (), (), ()), ()))) (fun y0 => K (.exit 0) (prime_First.e0_1.enc ((y0, (), (), (), (), (), (), (), (), (), (), (), (), (), (), (), (), (), (), (), (), (), (), (), (), (), (), (), (), (), (), (), (), (), (), (), (), (), (), (), (), (), (), (), (), ()), ()))) m a.1.1 a.1.2.2.2.2.2.2.2.2.1 a.1.2.2.2.2.2.2.2.2.2.1 a.1.2.2.2.2.2.2.2.2.2.2.1 a.2.1
noncomputable def prime_First.H0 {R : Type} (k : Nat) (st : St) (K : Ex → St → Option R) : Option R := hookL (fun st K => aCode Cx 12 (callT k prime_First.T) k (lc Try.f12 0) 0 st K) (Cx.hint 12 0) k prime_First.s0.dec (prime_First.Q0 k) st K
theorem prime_First.h0 {R : Type} (k : Nat) (st : St) (K : Ex → St → Option R) : prime_First.H0 k st K = aCode Cx 12 (callT k prime_First.T) k (.loop (lc Try.f12 0)) 0 st K :=
  hookL_eq Sh.dec_ok (Φ := prime_First.P0 k) (fun K a => rfl) (fun K m a => rfl) (fun K m a => loop_step (hookOf []) (allL (l' := []) (by kernel_rfl) trivial) K m _ (by kernel_rfl)) st K
abbrev prime_First.as : List AS := [.ty (.sl tProof)]
abbrev prime_First.hs : List SS := []
abbrev prime_First.rts : List CV := []
abbrev prime_First.rs : VS := .one (.int .i64)
noncomputable def prime_First.g : Nat → {R : Type} → HA prime_First.as × HS prime_First.hs → (prime_First.rs.den → Option R) → Option R := fun k {R} a ret => prime_First.f k a.1.1 (fun y0 => ret y0)
noncomputable def prime_First.E : Entry Try.prog Cx pr where
  id := 12
  args := prime_First.as
  heap := prime_First.hs
  roots := prime_First.rts
  res := prime_First.rs
  f := prime_First.g
  ok := entry_ok (args := prime_First.as) (heap := prime_First.hs) (roots := prime_First.rts) (res := prime_First.rs) (f := prime_First.g) rfl Try.func12 prime_First.T rfl (fun a K => rfl) (fun k {R} a K => fun_step (c := (Try.f12.body).getD .skip) (by kernel_rfl) (hookOf [(0, prime_First.H0 k)]) (allL (l' := [(0, lc Try.f12 0)]) (by kernel_rfl) ⟨prime_First.h0 k, trivial⟩) _ K (by kernel_rfl))

/-! ### affidavit/prime.Check: function 13 -/
noncomputable def prime_Check.f {R : Type} : Nat → (List (Int × Int × List (Int × Int))) → (Bool → Option R) → Option R
  | 0, _, _ => none
  | k + 1, l, ret =>
    prime_First.f k l (fun n =>
      ret (n == (l.length : Int)))
noncomputable def prime_Check.T : List (Entry Try.prog Cx pr) := [prime_First.E]
abbrev prime_Check.as : List AS := [.ty (.sl tProof)]
abbrev prime_Check.hs : List SS := []
abbrev prime_Check.rts : List CV := []
abbrev prime_Check.rs : VS := .one (.bool)
noncomputable def prime_Check.g : Nat → {R : Type} → HA prime_Check.as × HS prime_Check.hs → (prime_Check.rs.den → Option R) → Option R := fun k {R} a ret => prime_Check.f k a.1.1 (fun y0 => ret y0)
noncomputable def prime_Check.E : Entry Try.prog Cx pr where
  id := 13
  args := prime_Check.as
  heap := prime_Check.hs
  roots := prime_Check.rts
  res := prime_Check.rs
  f := prime_Check.g
  ok := entry_ok (args := prime_Check.as) (heap := prime_Check.hs) (roots := prime_Check.rts) (res := prime_Check.rs) (f := prime_Check.g) rfl Try.func13 prime_Check.T rfl (fun a K => rfl) (fun k {R} a K => fun_step (c := (Try.f13.body).getD .skip) (by kernel_rfl) (hookOf []) (allL (l' := []) (by kernel_rfl) trivial) _ K (by kernel_rfl))

/-! ### affidavit/prime.Shows$1: function 30 -/
noncomputable def prime_Shows_1.f {R : Type} : Nat → (Int × Int × List (Int × Int)) → Int → (Bool → Option R) → Option R
  | 0, _, _, _ => none
  | k + 1, x, a1, ret =>
    ret (x.1 == a1)
noncomputable def prime_Shows_1.T : List (Entry Try.prog Cx pr) := []
abbrev prime_Shows_1.as : List AS := [.ty tProof, .fptr (.int .u64) 0]
abbrev prime_Shows_1.hs : List SS := []
abbrev prime_Shows_1.rts : List CV := []
abbrev prime_Shows_1.rs : VS := .one (.bool)
noncomputable def prime_Shows_1.g : Nat → {R : Type} → HA prime_Shows_1.as × HS prime_Shows_1.hs → (prime_Shows_1.rs.den → Option R) → Option R := fun k {R} a ret => prime_Shows_1.f k a.1.1 a.1.2.1 (fun y0 => ret y0)
noncomputable def prime_Shows_1.E : Entry Try.prog Cx pr where
  id := 30
  args := prime_Shows_1.as
  heap := prime_Shows_1.hs
  roots := prime_Shows_1.rts
  res := prime_Shows_1.rs
  f := prime_Shows_1.g
  ok := entry_ok (args := prime_Shows_1.as) (heap := prime_Shows_1.hs) (roots := prime_Shows_1.rts) (res := prime_Shows_1.rs) (f := prime_Shows_1.g) rfl Try.func30 prime_Shows_1.T rfl (fun a K => rfl) (fun k {R} a K => fun_step (c := (Try.f30.body).getD .skip) (by kernel_rfl) (hookOf []) (allL (l' := []) (by kernel_rfl) trivial) _ K (by kernel_rfl))

/-! ### slices.IndexFunc[[]affidavit/api.Proof,affidavit/api.Proof]: function 45 -/
noncomputable def slices_IndexFunc_45.B0 {R : Type} (k : Nat) (x0_ : Int → Option R) (x1_ : Unit → Option R) (rec_ : List (Int × Int × List (Int × Int)) → Int → Int → Int → Option R) (s1 : List (Int × Int × List (Int × Int))) (f : Int) (t7 : Int) (t8 : Int) : Option R :=
  bif (decide (t8 < t7)) then
    (bif (decide (0 ≤ t8) && decide (t8 < (s1.length : Int))) then (prime_Shows_1.f k ((s1.getD t8.toNat (0, 0, [])).1, ((s1.getD t8.toNat (0, 0, [])).2)) f (fun b =>
      bif b then
        (x0_ t8)
      else
        (rec_ s1 f t7 (IntKind.wrap .i64 (t8 + 1))))) else none)
  else
    (x1_ ())
noncomputable def slices_IndexFunc_45.L0 {R : Type} (k : Nat) (x0_ : Int → Option R) (x1_ : Unit → Option R) : Nat → List (Int × Int × List (Int × Int)) → Int → Int → Int → Option R
  | 0, _, _, _, _ => none
  | m + 1, s1, f, t7, t8 => slices_IndexFunc_45.B0 k x0_ x1_ (slices_IndexFunc_45.L0 k x0_ x1_ m) s1 f t7 t8
noncomputable def slices_IndexFunc_45.f {R : Type} : Nat → (List (Int × Int × List (Int × Int))) → Int → (Int → Option R) → Option R
  | 0, _, _, _ => none
  | k + 1, s, c, ret =>
    slices_IndexFunc_45.L0 k (fun t4 =>
      ret t4) (fun _ =>
      ret (-1)) k s c (s.length : Int) 0
noncomputable def slices_IndexFunc_45.T : List (Entry Try.prog Cx pr) := [prime_Shows_1.E]
abbrev slices_IndexFunc_45.s0 : Sh := ⟨[.one (.vsl tProof), .one (.fn 30 [] [.fptr (.int .u64) 0]), u, u, u, u, u, .one (.int .i64), .one (.int .i64), u, u, u, u, u, u, u, u, u, u], [], []⟩
abbrev slices_IndexFunc_45.e0_0 : Sh := ⟨[u, u, u, u, .one (.int .i64), u, u, u, u, u, u, u, u, u, u, u, u, u, u], [], []⟩
abbrev slices_IndexFunc_45.e0_1 : Sh := ⟨[u, u, u, u, u, u, u, u, u, u, u, u, u, u, u, u, u, u, u], [], []⟩
noncomputable def slices_IndexFunc_45.P0 {R : Type} (k : Nat) (K : Ex → St → Option R) (rec_ : slices_IndexFunc_45.s0.den → Option R) (a : slices_IndexFunc_45.s0.den) : Option R := slices_IndexFunc_45.B0 k (fun y0 => K .ret (slices_IndexFunc_45.e0_0.enc (((), (), (), (), y0, (), (), (), (), (), (), (), (), (), (), (), (), (), (), ()), ()))) (fun _ => K (.exit 0) (slices_IndexFunc_45.e0_1.enc (((), (), (), (), (), (), (), (), (), (), (), (), (), (), (), (), (), (), (), ()), ()))) (fun v0 v1 v2 v3 => rec_ ((v0, ((), (v1, ())), (), (), (), (), (), v2, v3, (), (), (), (), (), (), (), (), (), (), ()), ())) a.1.1 a.1.2.1.2.1 a.1.2.2.2.2.2.2.2.1 a.1.2.2.2.2.2.2.2.2.1
noncomputable def slices_IndexFunc_45.Q0 {R : Type} (k : Nat) (K : Ex → St → Option R) (m : Nat) (a : slices_IndexFunc_45.s0.den) : Option R := slices_IndexFunc_45.L0 k (fun y0 => K .ret (slices_IndexFunc_45.e0_0.enc (((), (), (), (), y0, (), (), (), (), (), (), (), (), (), (), (), (), (), (), ()), ()))) (fun _ => K (.exit 0) (slices_IndexFunc_45.e0_1.enc (((), (), (), (), (), (), (), (), (), (), (), (), (), (), (), (), (), (), (), ()), ()))) m a.1.1 a.1.2.1.2.1 a.1.2.2.2.2.2.2.2.1 a.1.2.2.2.2.2.2.2.2.1
noncomputable def slices_IndexFunc_45.H0 {R : Type} (k : Nat) (st : St) (K : Ex → St → Option R) : Option R := hookL (fun st K => aCode Cx 45 (callT k slices_IndexFunc_45.T) k (lc Try.f45 0) 0 st K) (Cx.hint 45 0) k slices_IndexFunc_45.s0.dec (slices_IndexFunc_45.Q0 k) st K
theorem slices_IndexFunc_45.h0 {R : Type} (k : Nat) (st : St) (K : Ex → St → Option R) : slices_IndexFunc_45.H0 k st K = aCode Cx 45 (callT k slices_IndexFunc_45.T) k (.loop (lc Try.f45 0)) 0 st K :=
  hookL_eq Sh.dec_ok (Φ := slices_IndexFunc_45.P0 k) (fun K a => rfl) (fun K m a => rfl) (fun K m a => loop_step (hookOf []) (allL (l' := []) (by kernel_rfl) trivial) K m _ (by kernel_rfl)) st K
abbrev slices_IndexFunc_45.as : List AS := [.ty (.sl tProof), .fn 30 [] [.fptr (.int .u64) 0]]
abbrev slices_IndexFunc_45.hs : List SS := []
abbrev slices_IndexFunc_45.rts : List CV := []
abbrev slices_IndexFunc_45.rs : VS := .one (.int .i64)
noncomputable def slices_IndexFunc_45.g : Nat → {R : Type} → HA slices_IndexFunc_45.as × HS slices_IndexFunc_45.hs → (slices_IndexFunc_45.rs.den → Option R) → Option R := fun k {R} a ret => slices_IndexFunc_45.f k a.1.1 a.1.2.1.2.1 (fun y0 => ret y0)
noncomputable def slices_IndexFunc_45.E : Entry Try.prog Cx pr where
  id := 45
  args := slices_IndexFunc_45.as
  heap := slices_IndexFunc_45.hs
  roots := slices_IndexFunc_45.rts
  res := slices_IndexFunc_45.rs
  f := slices_IndexFunc_45.g
  ok := entry_ok (args := slices_IndexFunc_45.as) (heap := slices_IndexFunc_45.hs) (roots := slices_IndexFunc_45.rts) (res := slices_IndexFunc_45.rs) (f := slices_IndexFunc_45.g) rfl Try.func45 slices_IndexFunc_45.T rfl (fun a K => rfl) (fun k {R} a K => fun_step (c := (Try.f45.body).getD .skip) (by kernel_rfl) (hookOf [(0, slices_IndexFunc_45.H0 k)]) (allL (l' := [(0, lc Try.f45 0)]) (by kernel_rfl) ⟨slices_IndexFunc_45.h0 k, trivial⟩) _ K (by kernel_rfl))

/-! ### slices.ContainsFunc[[]affidavit/api.Proof,affidavit/api.Proof]: function 29 -/
noncomputable def slices_ContainsFunc_29.f {R : Type} : Nat → (List (Int × Int × List (Int × Int))) → Int → (Bool → Option R) → Option R
  | 0, _, _, _ => none
  | k + 1, s, c, ret =>
    slices_IndexFunc_45.f k s c (fun n =>
      ret (decide (n ≥ 0)))
noncomputable def slices_ContainsFunc_29.T : List (Entry Try.prog Cx pr) := [slices_IndexFunc_45.E]
abbrev slices_ContainsFunc_29.as : List AS := [.ty (.sl tProof), .fn 30 [] [.fptr (.int .u64) 0]]
abbrev slices_ContainsFunc_29.hs : List SS := []
abbrev slices_ContainsFunc_29.rts : List CV := []
abbrev slices_ContainsFunc_29.rs : VS := .one (.bool)
noncomputable def slices_ContainsFunc_29.g : Nat → {R : Type} → HA slices_ContainsFunc_29.as × HS slices_ContainsFunc_29.hs → (slices_ContainsFunc_29.rs.den → Option R) → Option R := fun k {R} a ret => slices_ContainsFunc_29.f k a.1.1 a.1.2.1.2.1 (fun y0 => ret y0)
noncomputable def slices_ContainsFunc_29.E : Entry Try.prog Cx pr where
  id := 29
  args := slices_ContainsFunc_29.as
  heap := slices_ContainsFunc_29.hs
  roots := slices_ContainsFunc_29.rts
  res := slices_ContainsFunc_29.rs
  f := slices_ContainsFunc_29.g
  ok := entry_ok (args := slices_ContainsFunc_29.as) (heap := slices_ContainsFunc_29.hs) (roots := slices_ContainsFunc_29.rts) (res := slices_ContainsFunc_29.rs) (f := slices_ContainsFunc_29.g) rfl Try.func29 slices_ContainsFunc_29.T rfl (fun a K => rfl) (fun k {R} a K => fun_step (c := (Try.f29.body).getD .skip) (by kernel_rfl) (hookOf []) (allL (l' := []) (by kernel_rfl) trivial) _ K (by kernel_rfl))

/-! ### affidavit/prime.Shows: function 14 -/
noncomputable def prime_Shows.f {R : Type} : Nat → (List (Int × Int × List (Int × Int))) → Int → (Bool → Option R) → Option R
  | 0, _, _, _ => none
  | k + 1, l, p, ret =>
    slices_ContainsFunc_29.f k l p (fun b =>
      prime_Check.f k l (fun b1 =>
        bif b1 then
          (bif (p == 2) then
            (ret true)
          else
            (ret b))
        else
          (ret false)))
noncomputable def prime_Shows.T : List (Entry Try.prog Cx pr) := [slices_ContainsFunc_29.E, prime_Check.E]
abbrev prime_Shows.as : List AS := [.ty (.sl tProof), .ty (.int .u64)]
abbrev prime_Shows.hs : List SS := []
abbrev prime_Shows.rts : List CV := []
abbrev prime_Shows.rs : VS := .one (.bool)
noncomputable def prime_Shows.g : Nat → {R : Type} → HA prime_Shows.as × HS prime_Shows.hs → (prime_Shows.rs.den → Option R) → Option R := fun k {R} a ret => prime_Shows.f k a.1.1 a.1.2.1 (fun y0 => ret y0)
noncomputable def prime_Shows.E : Entry Try.prog Cx pr where
  id := 14
  args := prime_Shows.as
  heap := prime_Shows.hs
  roots := prime_Shows.rts
  res := prime_Shows.rs
  f := prime_Shows.g
  ok := entry_ok (args := prime_Shows.as) (heap := prime_Shows.hs) (roots := prime_Shows.rts) (res := prime_Shows.rs) (f := prime_Shows.g) rfl Try.func14 prime_Shows.T rfl (fun a K => rfl) (fun k {R} a K => fun_step (c := (Try.f14.body).getD .skip) (by kernel_rfl) (hookOf []) (allL (l' := []) (by kernel_rfl) trivial) _ K (by kernel_rfl))

/-! ### affidavit/prime.Small: function 19 -/
noncomputable def prime_Small.f {R : Type} : Nat → Int → (Bool → Option R) → Option R
  | 0, _, _ => none
  | k + 1, n, ret =>
    bif (decide (n ≥ 4294967296)) then
      (ret false)
    else
      (prime_Parts.f k n (fun l n1 =>
        bif (n1 == 0) then
          (bif ((l.length : Int) == 1) then
            (bif (decide (0 ≤ (0 : Int)) && decide (0 < (l.length : Int))) then (ret (((l.getD ((0 : Int).toNat) (0, 0)).2) == 1)) else none)
          else
            (ret false))
        else
          (ret false)))
noncomputable def prime_Small.T : List (Entry Try.prog Cx pr) := [prime_Parts.E]
abbrev prime_Small.as : List AS := [.ty (.int .u64)]
abbrev prime_Small.hs : List SS := []
abbrev prime_Small.rts : List CV := []
abbrev prime_Small.rs : VS := .one (.bool)
noncomputable def prime_Small.g : Nat → {R : Type} → HA prime_Small.as × HS prime_Small.hs → (prime_Small.rs.den → Option R) → Option R := fun k {R} a ret => prime_Small.f k a.1.1 (fun y0 => ret y0)
noncomputable def prime_Small.E : Entry Try.prog Cx pr where
  id := 19
  args := prime_Small.as
  heap := prime_Small.hs
  roots := prime_Small.rts
  res := prime_Small.rs
  f := prime_Small.g
  ok := entry_ok (args := prime_Small.as) (heap := prime_Small.hs) (roots := prime_Small.rts) (res := prime_Small.rs) (f := prime_Small.g) rfl Try.func19 prime_Small.T rfl (fun a K => rfl) (fun k {R} a K => fun_step (c := (Try.f19.body).getD .skip) (by kernel_rfl) (hookOf []) (allL (l' := []) (by kernel_rfl) trivial) _ K (by kernel_rfl))

/-! ### affidavit/affidavitlaw02.awake: function 9 -/
noncomputable def affidavitlaw02_awake.f {R : Type} : Nat → (Bool → Option R) → Option R
  | 0, _ => none
  | k + 1, ret =>
    prime_Build.f k 7 (fun l n =>
      prime_Parts.f k 12 (fun l1 n1 =>
        prime_Build.f k 9 (fun l2 n2 =>
          bif (n == 0) then
            (bif ((l.length : Int) == 2) then
              (bif (decide (0 ≤ (1 : Int)) && decide (1 < (l.length : Int))) then (bif (((l.getD ((1 : Int).toNat) (0, 0, [])).1) == 7) then
                (bif (decide (0 ≤ (1 : Int)) && decide (1 < (l.length : Int))) then (bif ((((l.getD ((1 : Int).toNat) (0, 0, [])).2).1) == 3) then
                  (bif (n1 == 0) then
                    (bif ((l1.length : Int) == 2) then
                      (bif (decide (0 ≤ (0 : Int)) && decide (0 < (l1.length : Int))) then (bif (((l1.getD ((0 : Int).toNat) (0, 0)).2) == 2) then
                        (bif (n2 == 6) then
                          (prime_Check.f k l (fun b =>
                            bif b then
                              (prime_Shows.f k l 7 (fun b1 =>
                                bif b1 then
                                  (prime_First.f k l (fun n3 =>
                                    bif (n3 == 2) then
                                      (prime_Small.f k 65537 (fun b2 =>
                                        ret b2))
                                    else
                                      (ret false)))
                                else
                                  (ret false)))
                            else
                              (ret false)))
                        else
                          (ret false))
                      else
                        (ret false)) else none)
                    else
                      (ret false))
                  else
                    (ret false))
                else
                  (ret false)) else none)
              else
                (ret false)) else none)
            else
              (ret false))
          else
            (ret false))))
noncomputable def affidavitlaw02_awake.T : List (Entry Try.prog Cx pr) := [prime_Build.E, prime_Parts.E, prime_Check.E, prime_Shows.E, prime_First.E, prime_Small.E]
abbrev affidavitlaw02_awake.as : List AS := []
abbrev affidavitlaw02_awake.hs : List SS := []
abbrev affidavitlaw02_awake.rts : List CV := []
abbrev affidavitlaw02_awake.rs : VS := .one (.bool)
noncomputable def affidavitlaw02_awake.g : Nat → {R : Type} → HA affidavitlaw02_awake.as × HS affidavitlaw02_awake.hs → (affidavitlaw02_awake.rs.den → Option R) → Option R := fun k {R} a ret => affidavitlaw02_awake.f k (fun y0 => ret y0)
noncomputable def affidavitlaw02_awake.E : Entry Try.prog Cx pr where
  id := 9
  args := affidavitlaw02_awake.as
  heap := affidavitlaw02_awake.hs
  roots := affidavitlaw02_awake.rts
  res := affidavitlaw02_awake.rs
  f := affidavitlaw02_awake.g
  ok := entry_ok (args := affidavitlaw02_awake.as) (heap := affidavitlaw02_awake.hs) (roots := affidavitlaw02_awake.rts) (res := affidavitlaw02_awake.rs) (f := affidavitlaw02_awake.g) rfl Try.func9 affidavitlaw02_awake.T rfl (fun a K => rfl) (fun k {R} a K => fun_step (c := (Try.f9.body).getD .skip) (by kernel_rfl) (hookOf []) (allL (l' := []) (by kernel_rfl) trivial) _ K (by kernel_rfl))

/-! ### affidavit/affidavitref02.Short: function 10 -/
noncomputable def affidavitref02_Short.B0 {R : Type} (k : Nat) (x0_ : Bool → Option R) (x1_ : Unit → Option R) (rec_ : List (Int × Int × List (Int × Int)) → Int → Option R) (l1 : List (Int × Int × List (Int × Int))) (i : Int) : Option R :=
  bif (decide (i < (l1.length : Int))) then
    (bif (decide (0 ≤ i) && decide (i < (l1.length : Int))) then (bif (decide (((((l1.getD i.toNat (0, 0, [])).2).2).length : Int) > 30)) then
      (x0_ false)
    else
      (rec_ l1 (IntKind.wrap .i64 (i + 1)))) else none)
  else
    (x1_ ())
noncomputable def affidavitref02_Short.L0 {R : Type} (k : Nat) (x0_ : Bool → Option R) (x1_ : Unit → Option R) : Nat → List (Int × Int × List (Int × Int)) → Int → Option R
  | 0, _, _ => none
  | m + 1, l1, i => affidavitref02_Short.B0 k x0_ x1_ (affidavitref02_Short.L0 k x0_ x1_ m) l1 i
noncomputable def affidavitref02_Short.f {R : Type} : Nat → (List (Int × Int × List (Int × Int))) → (Bool → Option R) → Option R
  | 0, _, _ => none
  | k + 1, l, ret =>
    bif (decide ((l.length : Int) > 40)) then
      (ret false)
    else
      (affidavitref02_Short.L0 k (fun t2 =>
        ret t2) (fun _ =>
        ret true) k l 0)
noncomputable def affidavitref02_Short.T : List (Entry Try.prog Cx pr) := []
abbrev affidavitref02_Short.s0 : Sh := ⟨[.one (.vsl tProof), u, u, .one (.int .i64), u, u, u, u, u, u, u, u, u, u, u, u, u, u, u, u], [], []⟩
abbrev affidavitref02_Short.e0_0 : Sh := ⟨[u, u, .one (.bool), u, u, u, u, u, u, u, u, u, u, u, u, u, u, u, u, u], [], []⟩
abbrev affidavitref02_Short.e0_1 : Sh := ⟨[u, u, u, u, u, u, u, u, u, u, u, u, u, u, u, u, u, u, u, u], [], []⟩
noncomputable def affidavitref02_Short.P0 {R : Type} (k : Nat) (K : Ex → St → Option R) (rec_ : affidavitref02_Short.s0.den → Option R) (a : affidavitref02_Short.s0.den) : Option R := affidavitref02_Short.B0 k (fun y0 => K .ret (affidavitref02_Short.e0_0.enc (((), (), y0, (), (), (), (), (), (), (), (), (), (), (), (), (), (), (), (), (), ()), ()))) (fun _ => K (.exit 0) (affidavitref02_Short.e0_1.enc (((), (), (), (), (), (), (), (), (), (), (), (), (), (), (), (), (), (), (), (), ()), ()))) (fun v0 v1 => rec_ ((v0, (), (), v1, (), (), (), (), (), (), (), (), (), (), (), (), (), (), (), (), ()), ())) a.1.1 a.1.2.2.2.1
noncomputable def affidavitref02_Short.Q0 {R : Type} (k : Nat) (K : Ex → St → Option R) (m : Nat) (a : affidavitref02_Short.s0.den) : Option R := affidavitref02_Short.L0 k (fun y0 => K .ret (affidavitref02_Short.e0_0.enc (((), (), y0, (), (), (), (), (), (), (), (), (), (), (), (), (), (), (), (), (), ()), ()))) (fun _ => K (.exit 0) (affidavitref02_Short.e0_1.enc (((), (), (), (), (), (), (), (), (), (), (), (), (), (), (), (), (), (), (), (), ()), ()))) m a.1.1 a.1.2.2.2.1
noncomputable def affidavitref02_Short.H0 {R : Type} (k : Nat) (st : St) (K : Ex → St → Option R) : Option R := hookL (fun st K => aCode Cx 10 (callT k affidavitref02_Short.T) k (lc Try.f10 0) 0 st K) (Cx.hint 10 0) k affidavitref02_Short.s0.dec (affidavitref02_Short.Q0 k) st K
theorem affidavitref02_Short.h0 {R : Type} (k : Nat) (st : St) (K : Ex → St → Option R) : affidavitref02_Short.H0 k st K = aCode Cx 10 (callT k affidavitref02_Short.T) k (.loop (lc Try.f10 0)) 0 st K :=
  hookL_eq Sh.dec_ok (Φ := affidavitref02_Short.P0 k) (fun K a => rfl) (fun K m a => rfl) (fun K m a => loop_step (hookOf []) (allL (l' := []) (by kernel_rfl) trivial) K m _ (by kernel_rfl)) st K
abbrev affidavitref02_Short.as : List AS := [.ty (.sl tProof)]
abbrev affidavitref02_Short.hs : List SS := []
abbrev affidavitref02_Short.rts : List CV := []
abbrev affidavitref02_Short.rs : VS := .one (.bool)
noncomputable def affidavitref02_Short.g : Nat → {R : Type} → HA affidavitref02_Short.as × HS affidavitref02_Short.hs → (affidavitref02_Short.rs.den → Option R) → Option R := fun k {R} a ret => affidavitref02_Short.f k a.1.1 (fun y0 => ret y0)
noncomputable def affidavitref02_Short.E : Entry Try.prog Cx pr where
  id := 10
  args := affidavitref02_Short.as
  heap := affidavitref02_Short.hs
  roots := affidavitref02_Short.rts
  res := affidavitref02_Short.rs
  f := affidavitref02_Short.g
  ok := entry_ok (args := affidavitref02_Short.as) (heap := affidavitref02_Short.hs) (roots := affidavitref02_Short.rts) (res := affidavitref02_Short.rs) (f := affidavitref02_Short.g) rfl Try.func10 affidavitref02_Short.T rfl (fun a K => rfl) (fun k {R} a K => fun_step (c := (Try.f10.body).getD .skip) (by kernel_rfl) (hookOf [(0, affidavitref02_Short.H0 k)]) (allL (l' := [(0, lc Try.f10 0)]) (by kernel_rfl) ⟨affidavitref02_Short.h0 k, trivial⟩) _ K (by kernel_rfl))

/-! ### affidavit/affidavitref01.Add: function 65 -/
noncomputable def affidavitref01_Add.f {R : Type} : Nat → Int → Int → Int → (Int → Option R) → Option R
  | 0, _, _, _, _ => none
  | k + 1, p, a, b, ret =>
    bif (p != 0) then (ret (Int.tmod (IntKind.wrap .u64 (a + b)) p)) else none
noncomputable def affidavitref01_Add.T : List (Entry Try.prog Cx pr) := []
abbrev affidavitref01_Add.as : List AS := [.ty (.int .u64), .ty (.int .u64), .ty (.int .u64)]
abbrev affidavitref01_Add.hs : List SS := []
abbrev affidavitref01_Add.rts : List CV := []
abbrev affidavitref01_Add.rs : VS := .one (.int .u64)
noncomputable def affidavitref01_Add.g : Nat → {R : Type} → HA affidavitref01_Add.as × HS affidavitref01_Add.hs → (affidavitref01_Add.rs.den → Option R) → Option R := fun k {R} a ret => affidavitref01_Add.f k a.1.1 a.1.2.1 a.1.2.2.1 (fun y0 => ret y0)
noncomputable def affidavitref01_Add.E : Entry Try.prog Cx pr where
  id := 65
  args := affidavitref01_Add.as
  heap := affidavitref01_Add.hs
  roots := affidavitref01_Add.rts
  res := affidavitref01_Add.rs
  f := affidavitref01_Add.g
  ok := entry_ok (args := affidavitref01_Add.as) (heap := affidavitref01_Add.hs) (roots := affidavitref01_Add.rts) (res := affidavitref01_Add.rs) (f := affidavitref01_Add.g) rfl Try.func65 affidavitref01_Add.T rfl (fun a K => rfl) (fun k {R} a K => fun_step (c := (Try.f65.body).getD .skip) (by kernel_rfl) (hookOf []) (allL (l' := []) (by kernel_rfl) trivial) _ K (by kernel_rfl))

/-! ### affidavit/affidavitref01.Mul: function 49 -/
noncomputable def affidavitref01_Mul.f {R : Type} : Nat → Int → Int → Int → (Int → Option R) → Option R
  | 0, _, _, _, _ => none
  | k + 1, p, a, b, ret =>
    bif (b == 0) then
      (ret 0)
    else
      (bif ((2 : Int) != 0) then (affidavitref01_Mul.f k p a (IntKind.wrap .u64 (Int.tdiv b 2)) (fun n =>
        affidavitref01_Add.f k p n n (fun n1 =>
          bif ((2 : Int) != 0) then (bif ((Int.tmod b 2) == 1) then
            (affidavitref01_Add.f k p n1 a (fun n2 =>
              ret n2))
          else
            (ret n1)) else none))) else none)
noncomputable def affidavitref01_Mul.T : List (Entry Try.prog Cx pr) := [affidavitref01_Add.E]
abbrev affidavitref01_Mul.as : List AS := [.ty (.int .u64), .ty (.int .u64), .ty (.int .u64)]
abbrev affidavitref01_Mul.hs : List SS := []
abbrev affidavitref01_Mul.rts : List CV := []
abbrev affidavitref01_Mul.rs : VS := .one (.int .u64)
noncomputable def affidavitref01_Mul.g : Nat → {R : Type} → HA affidavitref01_Mul.as × HS affidavitref01_Mul.hs → (affidavitref01_Mul.rs.den → Option R) → Option R := fun k {R} a ret => affidavitref01_Mul.f k a.1.1 a.1.2.1 a.1.2.2.1 (fun y0 => ret y0)
noncomputable def affidavitref01_Mul.E : Entry Try.prog Cx pr where
  id := 49
  args := affidavitref01_Mul.as
  heap := affidavitref01_Mul.hs
  roots := affidavitref01_Mul.rts
  res := affidavitref01_Mul.rs
  f := affidavitref01_Mul.g
  ok := entry_rec (args := affidavitref01_Mul.as) (heap := affidavitref01_Mul.hs) (roots := affidavitref01_Mul.rts) (res := affidavitref01_Mul.rs) (f := affidavitref01_Mul.g) rfl Try.func49 affidavitref01_Mul.T rfl (fun a K => rfl) (fun k {R} a K => fun_step (c := (Try.f49.body).getD .skip) (by kernel_rfl) (hookOf []) (allL (l' := []) (by kernel_rfl) trivial) _ K (by kernel_rfl))

/-! ### affidavit/affidavitref01.Pow: function 36 -/
noncomputable def affidavitref01_Pow.f {R : Type} : Nat → Int → Int → Int → (Int → Option R) → Option R
  | 0, _, _, _, _ => none
  | k + 1, p, a, n, ret =>
    bif (n == 0) then
      (ret 1)
    else
      (bif ((2 : Int) != 0) then (affidavitref01_Pow.f k p a (IntKind.wrap .u64 (Int.tdiv n 2)) (fun n1 =>
        affidavitref01_Mul.f k p n1 n1 (fun n2 =>
          bif ((2 : Int) != 0) then (bif ((Int.tmod n 2) == 1) then
            (affidavitref01_Mul.f k p n2 a (fun n3 =>
              ret n3))
          else
            (ret n2)) else none))) else none)
noncomputable def affidavitref01_Pow.T : List (Entry Try.prog Cx pr) := [affidavitref01_Mul.E]
abbrev affidavitref01_Pow.as : List AS := [.ty (.int .u64), .ty (.int .u64), .ty (.int .u64)]
abbrev affidavitref01_Pow.hs : List SS := []
abbrev affidavitref01_Pow.rts : List CV := []
abbrev affidavitref01_Pow.rs : VS := .one (.int .u64)
noncomputable def affidavitref01_Pow.g : Nat → {R : Type} → HA affidavitref01_Pow.as × HS affidavitref01_Pow.hs → (affidavitref01_Pow.rs.den → Option R) → Option R := fun k {R} a ret => affidavitref01_Pow.f k a.1.1 a.1.2.1 a.1.2.2.1 (fun y0 => ret y0)
noncomputable def affidavitref01_Pow.E : Entry Try.prog Cx pr where
  id := 36
  args := affidavitref01_Pow.as
  heap := affidavitref01_Pow.hs
  roots := affidavitref01_Pow.rts
  res := affidavitref01_Pow.rs
  f := affidavitref01_Pow.g
  ok := entry_rec (args := affidavitref01_Pow.as) (heap := affidavitref01_Pow.hs) (roots := affidavitref01_Pow.rts) (res := affidavitref01_Pow.rs) (f := affidavitref01_Pow.g) rfl Try.func36 affidavitref01_Pow.T rfl (fun a K => rfl) (fun k {R} a K => fun_step (c := (Try.f36.body).getD .skip) (by kernel_rfl) (hookOf []) (allL (l' := []) (by kernel_rfl) trivial) _ K (by kernel_rfl))

/-! ### affidavit/affidavitref02.known: function 31 -/
noncomputable def affidavitref02_known.B0 {R : Type} (k : Nat) (x0_ : Bool → Option R) (x1_ : Int → Option R) (rec_ : List (Int × Int × List (Int × Int)) → Int → Int → Option R) (l1 : List (Int × Int × List (Int × Int))) (p1 : Int) (i : Int) : Option R :=
  bif (decide (i < (l1.length : Int))) then
    (bif (decide (0 ≤ i) && decide (i < (l1.length : Int))) then (bif (((l1.getD i.toNat (0, 0, [])).1) == p1) then
      (x0_ true)
    else
      (rec_ l1 p1 (IntKind.wrap .i64 (i + 1)))) else none)
  else
    (x1_ p1)
noncomputable def affidavitref02_known.L0 {R : Type} (k : Nat) (x0_ : Bool → Option R) (x1_ : Int → Option R) : Nat → List (Int × Int × List (Int × Int)) → Int → Int → Option R
  | 0, _, _, _ => none
  | m + 1, l1, p1, i => affidavitref02_known.B0 k x0_ x1_ (affidavitref02_known.L0 k x0_ x1_ m) l1 p1 i
noncomputable def affidavitref02_known.f {R : Type} : Nat → (List (Int × Int × List (Int × Int))) → Int → (Bool → Option R) → Option R
  | 0, _, _, _ => none
  | k + 1, l, p, ret =>
    affidavitref02_known.L0 k (fun t4 =>
      ret t4) (fun p2 =>
      ret (p2 == 2)) k l p 0
noncomputable def affidavitref02_known.T : List (Entry Try.prog Cx pr) := []
abbrev affidavitref02_known.s0 : Sh := ⟨[.one (.vsl tProof), .one (.int .u64), u, u, u, .one (.int .i64), u, u, u, u, u, u, u, u, u, u, u, u, u, u, u], [], []⟩
abbrev affidavitref02_known.e0_0 : Sh := ⟨[u, u, u, u, .one (.bool), u, u, u, u, u, u, u, u, u, u, u, u, u, u, u, u], [], []⟩
abbrev affidavitref02_known.e0_1 : Sh := ⟨[u, .one (.int .u64), u, u, u, u, u, u, u, u, u, u, u, u, u, u, u, u, u, u, u], [], []⟩
noncomputable def affidavitref02_known.P0 {R : Type} (k : Nat) (K : Ex → St → Option R) (rec_ : affidavitref02_known.s0.den → Option R) (a : affidavitref02_known.s0.den) : Option R := affidavitref02_known.B0 k (fun y0 => K .ret (affidavitref02_known.e0_0.enc (((), (), (), (), y0, (), (), (), (), (), (), (), (), (), (), (), (), (), (), (), (), ()), ()))) (fun y0 => K (.exit 0) (affidavitref02_known.e0_1.enc (((), y0, (), (), (), (), (), (), (), (), (), (), (), (), (), (), (), (), (), (), (), ()), ()))) (fun v0 v1 v2 => rec_ ((v0, v1, (), (), (), v2, (), (), (), (), (), (), (), (), (), (), (), (), (), (), (), ()), ())) a.1.1 a.1.2.1 a.1.2.2.2.2.2.1
noncomputable def affidavitref02_known.Q0 {R : Type} (k : Nat) (K : Ex → St → Option R) (m : Nat) (a : affidavitref02_known.s0.den) : Option R := affidavitref02_known.L0 k (fun y0 => K .ret (affidavitref02_known.e0_0.enc (((), (), (), (), y0, (), (), (), (), (), (), (), (), (), (), (), (), (), (), (), (), ()), ()))) (fun y0 => K (.exit 0) (affidavitref02_known.e0_1.enc (((), y0, (), (), (), (), (), (), (), (), (), (), (), (), (), (), (), (), (), (), (), ()), ()))) m a.1.1 a.1.2.1 a.1.2.2.2.2.2.1
noncomputable def affidavitref02_known.H0 {R : Type} (k : Nat) (st : St) (K : Ex → St → Option R) : Option R := hookL (fun st K => aCode Cx 31 (callT k affidavitref02_known.T) k (lc Try.f31 0) 0 st K) (Cx.hint 31 0) k affidavitref02_known.s0.dec (affidavitref02_known.Q0 k) st K
theorem affidavitref02_known.h0 {R : Type} (k : Nat) (st : St) (K : Ex → St → Option R) : affidavitref02_known.H0 k st K = aCode Cx 31 (callT k affidavitref02_known.T) k (.loop (lc Try.f31 0)) 0 st K :=
  hookL_eq Sh.dec_ok (Φ := affidavitref02_known.P0 k) (fun K a => rfl) (fun K m a => rfl) (fun K m a => loop_step (hookOf []) (allL (l' := []) (by kernel_rfl) trivial) K m _ (by kernel_rfl)) st K
abbrev affidavitref02_known.as : List AS := [.ty (.sl tProof), .ty (.int .u64)]
abbrev affidavitref02_known.hs : List SS := []
abbrev affidavitref02_known.rts : List CV := []
abbrev affidavitref02_known.rs : VS := .one (.bool)
noncomputable def affidavitref02_known.g : Nat → {R : Type} → HA affidavitref02_known.as × HS affidavitref02_known.hs → (affidavitref02_known.rs.den → Option R) → Option R := fun k {R} a ret => affidavitref02_known.f k a.1.1 a.1.2.1 (fun y0 => ret y0)
noncomputable def affidavitref02_known.E : Entry Try.prog Cx pr where
  id := 31
  args := affidavitref02_known.as
  heap := affidavitref02_known.hs
  roots := affidavitref02_known.rts
  res := affidavitref02_known.rs
  f := affidavitref02_known.g
  ok := entry_ok (args := affidavitref02_known.as) (heap := affidavitref02_known.hs) (roots := affidavitref02_known.rts) (res := affidavitref02_known.rs) (f := affidavitref02_known.g) rfl Try.func31 affidavitref02_known.T rfl (fun a K => rfl) (fun k {R} a K => fun_step (c := (Try.f31.body).getD .skip) (by kernel_rfl) (hookOf [(0, affidavitref02_known.H0 k)]) (allL (l' := [(0, lc Try.f31 0)]) (by kernel_rfl) ⟨affidavitref02_known.h0 k, trivial⟩) _ K (by kernel_rfl))

/-! ### affidavit/affidavitref02.Proof: function 27 -/
noncomputable def affidavitref02_Proof.B2 {R : Type} (k : Nat) (x0_ : Bool → Option R) (x1_ : List (Int × Int × List (Int × Int)) → Int → Int → Int → Int → Int → List (Int × Int) → Option R) (rec_ : List (Int × Int × List (Int × Int)) → Int → Int → Int → Int → Int → Int → List (Int × Int) → Int → Int → Option R) (l2 : List (Int × Int × List (Int × Int))) (i2 : Int) (n1 : Int) (k_1 : Int) (t : Int) (x3 : Int) (x4 : Int) (x5 : List (Int × Int)) (y : Int) (y1 : Int) : Option R :=
  bif (decide (t < y1)) then
    (bif (y != 0) then (bif ((Int.tmod n1 y) != 0) then
      (x0_ false)
    else
      (bif (y != 0) then (rec_ l2 i2 (IntKind.wrap .u64 (Int.tdiv n1 y)) k_1 (IntKind.wrap .i64 (t + 1)) x3 x4 x5 y y1) else none)) else none)
  else
    (x1_ l2 i2 n1 k_1 x3 x4 x5)
noncomputable def affidavitref02_Proof.L2 {R : Type} (k : Nat) (x0_ : Bool → Option R) (x1_ : List (Int × Int × List (Int × Int)) → Int → Int → Int → Int → Int → List (Int × Int) → Option R) : Nat → List (Int × Int × List (Int × Int)) → Int → Int → Int → Int → Int → Int → List (Int × Int) → Int → Int → Option R
  | 0, _, _, _, _, _, _, _, _, _, _ => none
  | m + 1, l2, i2, n1, k_1, t, x3, x4, x5, y, y1 => affidavitref02_Proof.B2 k x0_ x1_ (affidavitref02_Proof.L2 k x0_ x1_ m) l2 i2 n1 k_1 t x3 x4 x5 y y1
noncomputable def affidavitref02_Proof.B0 {R : Type} (k : Nat) (x0_ : Bool → Option R) (x1_ : List (Int × Int × List (Int × Int)) → Int → Int → Int → Int → List (Int × Int) → Option R) (rec_ : List (Int × Int × List (Int × Int)) → Int → Int → Int → Int → Int → List (Int × Int) → Option R) (l1 : List (Int × Int × List (Int × Int))) (i1 : Int) (n : Int) (k_ : Int) (x : Int) (x1 : Int) (x2 : List (Int × Int)) : Option R :=
  bif (decide (k_ < (x2.length : Int))) then
    (bif (decide (0 ≤ k_) && decide (k_ < (x2.length : Int))) then (bif (decide (((x2.getD k_.toNat (0, 0)).1) < 2)) then
      (x0_ false)
    else
      (bif (decide (((x2.getD k_.toNat (0, 0)).2) < 1)) then
        (x0_ false)
      else
        (bif (decide (k_ > 0)) then
          (bif (decide (0 ≤ (IntKind.wrap .i64 (k_ - 1))) && decide ((IntKind.wrap .i64 (k_ - 1)) < (x2.length : Int))) then (bif (decide (((x2.getD k_.toNat (0, 0)).1) ≤ (x2.getD (IntKind.wrap .i64 (k_ - 1)).toNat (0, 0)).1)) then
            (x0_ false)
          else
            (affidavitref02_Proof.L2 k (fun t4 =>
              x0_ t4) (fun l3 i3 n2 k_2 x6 x7 x8 =>
              rec_ l3 i3 n2 (IntKind.wrap .i64 (k_2 + 1)) x6 x7 x8) k l1 i1 n k_ 0 x x1 x2 ((x2.getD k_.toNat (0, 0)).1) ((x2.getD k_.toNat (0, 0)).2))) else none)
        else
          (affidavitref02_Proof.L2 k (fun t41 =>
            x0_ t41) (fun l4 i4 n3 k_3 x9 x10 x11 =>
            rec_ l4 i4 n3 (IntKind.wrap .i64 (k_3 + 1)) x9 x10 x11) k l1 i1 n k_ 0 x x1 x2 ((x2.getD k_.toNat (0, 0)).1) ((x2.getD k_.toNat (0, 0)).2))))) else none)
  else
    (x1_ l1 i1 n x x1 x2)
noncomputable def affidavitref02_Proof.L0 {R : Type} (k : Nat) (x0_ : Bool → Option R) (x1_ : List (Int × Int × List (Int × Int)) → Int → Int → Int → Int → List (Int × Int) → Option R) : Nat → List (Int × Int × List (Int × Int)) → Int → Int → Int → Int → Int → List (Int × Int) → Option R
  | 0, _, _, _, _, _, _, _ => none
  | m + 1, l1, i1, n, k_, x, x1, x2 => affidavitref02_Proof.B0 k x0_ x1_ (affidavitref02_Proof.L0 k x0_ x1_ m) l1 i1 n k_ x x1 x2
noncomputable def affidavitref02_Proof.B4 {R : Type} (k : Nat) (x0_ : Bool → Option R) (x1_ : Unit → Option R) (rec_ : List (Int × Int × List (Int × Int)) → Int → Int → Int → Int → List (Int × Int) → Option R) (l6 : List (Int × Int × List (Int × Int))) (i6 : Int) (k_4 : Int) (x15 : Int) (x16 : Int) (x17 : List (Int × Int)) : Option R :=
  bif (decide (k_4 < (x17.length : Int))) then
    (bif (decide (0 ≤ k_4) && decide (k_4 < (x17.length : Int))) then (bif (decide (0 ≤ i6) && decide (i6 ≤ (l6.length : Int))) then (affidavitref02_known.f k (l6.take i6.toNat) ((x17.getD k_4.toNat (0, 0)).1) (fun b =>
      bif (!b) then
        (x0_ false)
      else
        (bif (((x17.getD k_4.toNat (0, 0)).1) != 0) then (affidavitref01_Pow.f k x15 x16 (IntKind.wrap .u64 (Int.tdiv (IntKind.wrap .u64 (x15 - 1)) (x17.getD k_4.toNat (0, 0)).1)) (fun n6 =>
          bif (n6 == 1) then
            (x0_ false)
          else
            (rec_ l6 i6 (IntKind.wrap .i64 (k_4 + 1)) x15 x16 x17))) else none))) else none) else none)
  else
    (x1_ ())
noncomputable def affidavitref02_Proof.L4 {R : Type} (k : Nat) (x0_ : Bool → Option R) (x1_ : Unit → Option R) : Nat → List (Int × Int × List (Int × Int)) → Int → Int → Int → Int → List (Int × Int) → Option R
  | 0, _, _, _, _, _, _ => none
  | m + 1, l6, i6, k_4, x15, x16, x17 => affidavitref02_Proof.B4 k x0_ x1_ (affidavitref02_Proof.L4 k x0_ x1_ m) l6 i6 k_4 x15 x16 x17
noncomputable def affidavitref02_Proof.f {R : Type} : Nat → (List (Int × Int × List (Int × Int))) → Int → (Bool → Option R) → Option R
  | 0, _, _, _ => none
  | k + 1, l, i, ret =>
    bif (decide (0 ≤ i) && decide (i < (l.length : Int))) then (bif (decide (i ≥ 200)) then
      (ret false)
    else
      (bif (decide (i > 0)) then
        (bif (decide (0 ≤ (IntKind.wrap .i64 (i - 1))) && decide ((IntKind.wrap .i64 (i - 1)) < (l.length : Int))) then (bif (decide (((l.getD (IntKind.wrap .i64 (i - 1)).toNat (0, 0, [])).1) ≥ (l.getD i.toNat (0, 0, [])).1)) then
          (ret false)
        else
          (bif (decide (((l.getD i.toNat (0, 0, [])).1) ≤ 2)) then
            (ret false)
          else
            (bif (decide (((l.getD i.toNat (0, 0, [])).1) > 9223372036854775807)) then
              (ret false)
            else
              (bif ((((l.getD i.toNat (0, 0, [])).2).1) == 0) then
                (ret false)
              else
                (bif (decide ((((l.getD i.toNat (0, 0, [])).2).1) ≥ (l.getD i.toNat (0, 0, [])).1)) then
                  (ret false)
                else
                  (bif (((((l.getD i.toNat (0, 0, [])).2).2).length : Int) == 0) then
                    (ret false)
                  else
                    (bif (decide (((((l.getD i.toNat (0, 0, [])).2).2).length : Int) > 20)) then
                      (ret false)
                    else
                      (affidavitref02_Proof.L0 k (fun t42 =>
                        ret t42) (fun l5 i5 n4 x12 x13 x14 =>
                        bif (n4 != 1) then
                          (ret false)
                        else
                          (affidavitref01_Pow.f k x12 x13 (IntKind.wrap .u64 (x12 - 1)) (fun n5 =>
                            bif (n5 != 1) then
                              (ret false)
                            else
                              (affidavitref02_Proof.L4 k (fun t43 =>
                                ret t43) (fun _ =>
                                ret true) k l5 i5 0 x12 x13 x14)))) k l i (IntKind.wrap .u64 (((l.getD i.toNat (0, 0, [])).1) - 1)) 0 ((l.getD i.toNat (0, 0, [])).1) (((l.getD i.toNat (0, 0, [])).2).1) (((l.getD i.toNat (0, 0, [])).2).2))))))))) else none)
      else
        (bif (decide (((l.getD i.toNat (0, 0, [])).1) ≤ 2)) then
          (ret false)
        else
          (bif (decide (((l.getD i.toNat (0, 0, [])).1) > 9223372036854775807)) then
            (ret false)
          else
            (bif ((((l.getD i.toNat (0, 0, [])).2).1) == 0) then
              (ret false)
            else
              (bif (decide ((((l.getD i.toNat (0, 0, [])).2).1) ≥ (l.getD i.toNat (0, 0, [])).1)) then
                (ret false)
              else
                (bif (((((l.getD i.toNat (0, 0, [])).2).2).length : Int) == 0) then
                  (ret false)
                else
                  (bif (decide (((((l.getD i.toNat (0, 0, [])).2).2).length : Int) > 20)) then
                    (ret false)
                  else
                    (affidavitref02_Proof.L0 k (fun t44 =>
                      ret t44) (fun l7 i7 n7 x18 x19 x20 =>
                      bif (n7 != 1) then
                        (ret false)
                      else
                        (affidavitref01_Pow.f k x18 x19 (IntKind.wrap .u64 (x18 - 1)) (fun n8 =>
                          bif (n8 != 1) then
                            (ret false)
                          else
                            (affidavitref02_Proof.L4 k (fun t45 =>
                              ret t45) (fun _ =>
                              ret true) k l7 i7 0 x18 x19 x20)))) k l i (IntKind.wrap .u64 (((l.getD i.toNat (0, 0, [])).1) - 1)) 0 ((l.getD i.toNat (0, 0, [])).1) (((l.getD i.toNat (0, 0, [])).2).1) (((l.getD i.toNat (0, 0, [])).2).2)))))))))) else none
noncomputable def affidavitref02_Proof.T : List (Entry Try.prog Cx pr) := [affidavitref01_Pow.E, affidavitref02_known.E]
abbrev affidavitref02_Proof.s2 : Sh := ⟨[.one (.vsl tProof), .one (.int .i64), u, u, u, .one (.ptr0 0 0), .one (.int .u64), .one (.int .i64), .one (.ptr0 1 0), .one (.int .i64), u, u, u, u, u, u, u, u, u, u, u, u, u, u, u, u, u, u, u, u, u, u, u, u, u, u, u, u, u, u, u, u, u, u, u, u, u, u, u, u, u, u, u, u, u, u, u, u, u, u, u, u, u, u, u, u, u, u, u, u, u, u, u, u, u, u, u, u, u, u, u, u, u, u, u, u, u, u, u, u, u, u, u, u, u, u, u, u, u, u, u, u, u, u, u, u, u, u, u, u, u, u, u, u, u, u, u, u, u, u, u, u, u, u, u, u, u, u, u, u, u, u, u, u, u, u, u, u, u, u, u, u, u, u, u, u, u, u, u, u, u, u, u, u, u, u, u, u, u, u, u, u, u, u, u, u], [.box tProof [.int .u64, .int .u64, .vsl tPart], .box tPart [.int .u64, .int .i64]], []⟩
abbrev affidavitref02_Proof.e2_0 : Sh := ⟨[u, u, u, u, .one (.bool), u, u, u, u, u, u, u, u, u, u, u, u, u, u, u, u, u, u, u, u, u, u, u, u, u, u, u, u, u, u, u, u, u, u, u, u, u, u, u, u, u, u, u, u, u, u, u, u, u, u, u, u, u, u, u, u, u, u, u, u, u, u, u, u, u, u, u, u, u, u, u, u, u, u, u, u, u, u, u, u, u, u, u, u, u, u, u, u, u, u, u, u, u, u, u, u, u, u, u, u, u, u, u, u, u, u, u, u, u, u, u, u, u, u, u, u, u, u, u, u, u, u, u, u, u, u, u, u, u, u, u, u, u, u, u, u, u, u, u, u, u, u, u, u, u, u, u, u, u, u, u, u, u, u, u, u, u, u, u, u, u], [], []⟩
abbrev affidavitref02_Proof.e2_1 : Sh := ⟨[.one (.vsl tProof), .one (.int .i64), u, u, u, .one (.ptr0 0 0), .one (.int .u64), .one (.int .i64), u, u, u, u, u, u, u, u, u, u, u, u, u, u, u, u, u, u, u, u, u, u, u, u, u, u, u, u, u, u, u, u, u, u, u, u, u, u, u, u, u, u, u, u, u, u, u, u, u, u, u, u, u, u, u, u, u, u, u, u, u, u, u, u, u, u, u, u, u, u, u, u, u, u, u, u, u, u, u, u, u, u, u, u, u, u, u, u, u, u, u, u, u, u, u, u, u, u, u, u, u, u, u, u, u, u, u, u, u, u, u, u, u, u, u, u, u, u, u, u, u, u, u, u, u, u, u, u, u, u, u, u, u, u, u, u, u, u, u, u, u, u, u, u, u, u, u, u, u, u, u, u, u, u, u, u, u, u], [.box tProof [.int .u64, .int .u64, .vsl tPart]], []⟩
noncomputable def affidavitref02_Proof.P2 {R : Type} (k : Nat) (K : Ex → St → Option R) (rec_ : affidavitref02_Proof.s2.den → Option R) (a : affidavitref02_Proof.s2.den) : Option R := affidavitref02_Proof.B2 k (fun y0 => K .ret (affidavitref02_Proof.e2_0.enc (((), (), (), (), y0, (), (), (), (), (), (), (), (), (), (), (), (), (), (), (), (), (), (), (), (), (), (), (), (), (), (), (), (), (), (), (), (), (), (), (), (), (), (), (), (), (), (), (), (), (), (), (), (), (), (), (), (), (), (), (), (), (), (), (), (), (), (), (), (), (), (), (), (), (), (), (), (), (), (), (), (), (), (), (), (), (), (), (), (), (), (), (), (), (), (), (), (), (), (), (), (), (), (), (), (), (), (), (), (), (), (), (), (), (), (), (), (), (), (), (), (), (), (), (), (), (), (), (), (), (), (), (), (), (), (), (), (), (), (), (), (), (), (), (), (), (), (), (), (), (), (), (), (), (), (), (), (), (), (), (), (), (), (), (), (), (), ()), ()))) (fun y0 y1 y2 y3 y4 y5 y6 => K (.exit 2) (affidavitref02_Proof.e2_1.enc ((y0, y1, (), (), (), (), y2, y3, (), (), (), (), (), (), (), (), (), (), (), (), (), (), (), (), (), (), (), (), (), (), (), (), (), (), (), (), (), (), (), (), (), (), (), (), (), (), (), (), (), (), (), (), (), (), (), (), (), (), (), (), (), (), (), (), (), (), (), (), (), (), (), (), (), (), (), (), (), (), (), (), (), (), (), (), (), (), (), (), (), (), (), (), (), (), (), (), (), (), (), (), (), (), (), (), (), (), (), (), (), (), (), (), (), (), (), (), (), (), (), (), (), (), (), (), (), (), (), (), (), (), (), (), (), (), (), (), (), (), (), (), (), (), (), (), (), (), (), (), (), (), (), (), (), (), (), (), (), (), (), (), (), (), (), (), (), (), ()), ((y4, y5, y6, ()), ())))) (fun v0 v1 v2 v3 v4 v5 v6 v7 v8 v9 => rec_ ((v0, v1, (), (), (), (), v2, v3, (), v4, (), (), (), (), (), (), (), (), (), (), (), (), (), (), (), (), (), (), (), (), (), (), (), (), (), (), (), (), (), (), (), (), (), (), (), (), (), (), (), (), (), (), (), (), (), (), (), (), (), (), (), (), (), (), (), (), (), (), (), (), (), (), (), (), (), (), (), (), (), (), (), (), (), (), (), (), (), (), (), (), (), (), (), (), (), (), (), (), (), (), (), (), (), (), (), (), (), (), (), (), (), (), (), (), (), (), (), (), (), (), (), (), (), (), (), (), (), (), (), (), (), (), (), (), (), (), (), (), (), (), (), (), (), (), (), (), (), (), (), (), (), (), (), (), (), (), (), (), (), (), (), (), (), (), (), (), ()), ((v5, v6, v7, ()), (v8, v9, ()), ()))) a.1.1 a.1.2.1 a.1.2.2.2.2.2.2.1 a.1.2.2.2.2.2.2.2.1 a.1.2.2.2.2.2.2.2.2.2.1 a.2.1.1 a.2.1.2.1 a.2.1.2.2.1 a.2.2.1.1 a.2.2.1.2.1
noncomputable def affidavitref02_Proof.Q2 {R : Type} (k : Nat) (K : Ex → St → Option R) (m : Nat) (a : affidavitref02_Proof.s2.den) : Option R := affidavitref02_Proof.L2 k (fun y0 => K .ret (affidavitref02_Proof.e2_0.enc (((), (), (), (), y0, (), (), (), (), (), (), (), (), (), (), (), (), (), (), (), (), (), (), (), (), (), (), (), (), (), (), (), (), (), (), (), (), (), (), (), (), (), (), (), (), (), (), (), (), (), (), (), (), (), (), (), (), (), (), (), (), (), (), (), (), (), (), (), (), (), (), (), (), (), (), (), (), (), (), (), (), (), (), (), (), (), (), (), (), (), (), (), (), (), (), (), (), (), (), (), (), (), (), (), (), (), (), (), (), (), (), (), (), (), (), (), (), (), (), (), (), (), (), (), (), (), (), (), (), (), (), (), (), (), (), (), (), (), (), (), (), (), (), (), (), (), (), (), (), (), (), (), (), (), (), (), (), (), (), (), (), (), (), (), (), (), ()), ()))) (fun y0 y1 y2 y3 y4 y5 y6 => K (.exit 2) (affidavitref02_Proof.e2_1.enc ((y0, y1, (), (), (), (), y2, y3, (), (), (), (), (), (), (), (), (), (), (), (), (), (), (), (), (), (), (), (), (), (), (), (), (), (), (), (), (), (), (), (), (), (), (), (), (), (), (), (), (), (), (), (), (), (), (), (), (), (), (), (), (), (), (), (), (), (), (), (), (), (), (), (), (), (), (), (), (), (), (), (), (), (), (), (), (), (), (), (), (), (), (), (), (), (), (), (), (), (), (), (), (), (), (), (), (), (), (), (), (), (), (), (), (), (), (), (), (), (), (), (), (), (), (), (), (), (), (), (), (), (), (), (), (), (), (), (), (), (), (), (), (), (), (), (), (), (), (), (), (), (), (), (), (), (), (), (), (), (), (), (), (), (), (), (), (), (), ()), ((y4, y5, y6, ()), ())))) m a.1.1 a.1.2.1 a.1.2.2.2.2.2.2.1 a.1.2.2.2.2.2.2.2.1 a.1.2.2.2.2.2.2.2.2.2.1 a.2.1.1 a.2.1.2.1 a.2.1.2.2.1 a.2.2.1.1 a.2.2.1.2.1
noncomputable def affidavitref02_Proof.H2 {R : Type} (k : Nat) (st : St) (K : Ex → St → Option R) : Option R := hookL (fun st K => aCode Cx 27 (callT k affidavitref02_Proof.T) k (lc Try.f27 2) 2 st K) (Cx.hint 27 2) k affidavitref02_Proof.s2.dec (affidavitref02_Proof.Q2 k) st K
theorem affidavitref02_Proof.h2 {R : Type} (k : Nat) (st : St) (K : Ex → St → Option R) : affidavitref02_Proof.H2 k st K = aCode Cx 27 (callT k affidavitref02_Proof.T) k (.loop (lc Try.f27 2)) 2 st K :=
  hookL_eq Sh.dec_ok (Φ := affidavitref02_Proof.P2 k) (fun K a => rfl) (fun K m a => rfl) (fun K m a => loop_step (hookOf []) (allL (l' := []) (by kernel_rfl) trivial) K m _ (by kernel_rfl)) st K
abbrev affidavitref02_Proof.s0 : Sh := ⟨[.one (.vsl tProof), .one (.int .i64), u, u, u, .one (.ptr0 0 0), .one (.int .u64), .one (.int .i64), u, u, u, u, u, u, u, u, u, u, u, u, u, u, u, u, u, u, u, u, u, u, u, u, u, u, u, u, u, u, u, u, u, u, u, u, u, u, u, u, u, u, u, u, u, u, u, u, u, u, u, u, u, u, u, u, u, u, u, u, u, u, u, u, u, u, u, u, u, u, u, u, u, u, u, u, u, u, u, u, u, u, u, u, u, u, u, u, u, u, u, u, u, u, u, u, u, u, u, u, u, u, u, u, u, u, u, u, u, u, u, u, u, u, u, u, u, u, u, u, u, u, u, u, u, u, u, u, u, u, u, u, u, u, u, u, u, u, u, u, u, u, u, u, u, u, u, u, u, u, u, u, u, u, u, u, u, u], [.box tProof [.int .u64, .int .u64, .vsl tPart]], []⟩
abbrev affidavitref02_Proof.e0_0 : Sh := ⟨[u, u, u, u, .one (.bool), u, u, u, u, u, u, u, u, u, u, u, u, u, u, u, u, u, u, u, u, u, u, u, u, u, u, u, u, u, u, u, u, u, u, u, u, u, u, u, u, u, u, u, u, u, u, u, u, u, u, u, u, u, u, u, u, u, u, u, u, u, u, u, u, u, u, u, u, u, u, u, u, u, u, u, u, u, u, u, u, u, u, u, u, u, u, u, u, u, u, u, u, u, u, u, u, u, u, u, u, u, u, u, u, u, u, u, u, u, u, u, u, u, u, u, u, u, u, u, u, u, u, u, u, u, u, u, u, u, u, u, u, u, u, u, u, u, u, u, u, u, u, u, u, u, u, u, u, u, u, u, u, u, u, u, u, u, u, u, u, u], [], []⟩
abbrev affidavitref02_Proof.e0_1 : Sh := ⟨[.one (.vsl tProof), .one (.int .i64), u, u, u, .one (.ptr0 0 0), .one (.int .u64), u, u, u, u, u, u, u, u, u, u, u, u, u, u, u, u, u, u, u, u, u, u, u, u, u, u, u, u, u, u, u, u, u, u, u, u, u, u, u, u, u, u, u, u, u, u, u, u, u, u, u, u, u, u, u, u, u, u, u, u, u, u, u, u, u, u, u, u, u, u, u, u, u, u, u, u, u, u, u, u, u, u, u, u, u, u, u, u, u, u, u, u, u, u, u, u, u, u, u, u, u, u, u, u, u, u, u, u, u, u, u, u, u, u, u, u, u, u, u, u, u, u, u, u, u, u, u, u, u, u, u, u, u, u, u, u, u, u, u, u, u, u, u, u, u, u, u, u, u, u, u, u, u, u, u, u, u, u, u], [.box tProof [.int .u64, .int .u64, .vsl tPart]], []⟩
noncomputable def affidavitref02_Proof.P0 {R : Type} (k : Nat) (K : Ex → St → Option R) (rec_ : affidavitref02_Proof.s0.den → Option R) (a : affidavitref02_Proof.s0.den) : Option R := affidavitref02_Proof.B0 k (fun y0 => K .ret (affidavitref02_Proof.e0_0.enc (((), (), (), (), y0, (), (), (), (), (), (), (), (), (), (), (), (), (), (), (), (), (), (), (), (), (), (), (), (), (), (), (), (), (), (), (), (), (), (), (), (), (), (), (), (), (), (), (), (), (), (), (), (), (), (), (), (), (), (), (), (), (), (), (), (), (), (), (), (), (), (), (), (), (), (), (), (), (), (), (), (), (), (), (), (), (), (), (), (), (), (), (), (), (), (), (), (), (), (), (), (), (), (), (), (), (), (), (), (), (), (), (), (), (), (), (), (), (), (), (), (), (), (), (), (), (), (), (), (), (), (), (), (), (), (), (), (), (), (), (), (), (), (), (), (), (), (), (), (), (), (), (), (), (), (), (), (), (), (), (), (), (), (), (), (), (), ()), ()))) (fun y0 y1 y2 y3 y4 y5 => K (.exit 0) (affidavitref02_Proof.e0_1.enc ((y0, y1, (), (), (), (), y2, (), (), (), (), (), (), (), (), (), (), (), (), (), (), (), (), (), (), (), (), (), (), (), (), (), (), (), (), (), (), (), (), (), (), (), (), (), (), (), (), (), (), (), (), (), (), (), (), (), (), (), (), (), (), (), (), (), (), (), (), (), (), (), (), (), (), (), (), (), (), (), (), (), (), (), (), (), (), (), (), (), (), (), (), (), (), (), (), (), (), (), (), (), (), (), (), (), (), (), (), (), (), (), (), (), (), (), (), (), (), (), (), (), (), (), (), (), (), (), (), (), (), (), (), (), (), (), (), (), (), (), (), (), (), (), (), (), (), (), (), (), (), (), (), (), (), (), (), (), (), (), (), (), (), (), (), (), (), (), ()), ((y3, y4, y5, ()), ())))) (fun v0 v1 v2 v3 v4 v5 v6 => rec_ ((v0, v1, (), (), (), (), v2, v3, (), (), (), (), (), (), (), (), (), (), (), (), (), (), (), (), (), (), (), (), (), (), (), (), (), (), (), (), (), (), (), (), (), (), (), (), (), (), (), (), (), (), (), (), (), (), (), (), (), (), (), (), (), (), (), (), (), (), (), (), (), (), (), (), (), (), (), (), (), (), (), (), (), (), (), (), (), (), (), (), (), (), (), (), (), (), (), (), (), (), (), (), (), (), (), (), (), (), (), (), (), (), (), (), (), (), (), (), (), (), (), (), (), (), (), (), (), (), (), (), (), (), (), (), (), (), (), (), (), (), (), (), (), (), (), (), (), (), (), (), (), (), (), (), (), (), (), (), (), (), (), (), (), (), (), (), (), (), ()), ((v4, v5, v6, ()), ()))) a.1.1 a.1.2.1 a.1.2.2.2.2.2.2.1 a.1.2.2.2.2.2.2.2.1 a.2.1.1 a.2.1.2.1 a.2.1.2.2.1
noncomputable def affidavitref02_Proof.Q0 {R : Type} (k : Nat) (K : Ex → St → Option R) (m : Nat) (a : affidavitref02_Proof.s0.den) : Option R := affidavitref02_Proof.L0 k (fun y0 => K .ret (affidavitref02_Proof.e0_0.enc (((), (), (), (), y0, (), (), (), (), (), (), (), (), (), (), (), (), (), (), (), (), (), (), (), (), (), (), (), (), (), (), (), (), (), (), (), (), (), (), (), (), (), (), (), (), (), (), (), (), (), (), (), (), (), (), (), (), (), (), (), (), (), (), (), (), (), (), (), (), (), (), (), (), (), (), (), (), (), (), (), (), (), (), (), (), (), (), (), (), (), (), (), (), (), (), (), (), (), (), (), (), (), (), (), (), (), (), (), (), (), (), (), (), (), (), (), (), (), (), (), (), (), (), (), (), (), (), (), (), (), (), (), (), (), (), (), (), (), (), (), (), (), (), (), (), (), (), (), (), (), (), (), (), (), (), (), (), (), (), (), (), (), (), (), (), (), ()), ()))) (fun y0 y1 y2 y3 y4 y5 => K (.exit 0) (affidavitref02_Proof.e0_1.enc ((y0, y1, (), (), (), (), y2, (), (), (), (), (), (), (), (), (), (), (), (), (), (), (), (), (), (), (), (), (), (), (), (), (), (), (), (), (), (), (), (), (), (), (), (), (), (), (), (), (), (), (), (), (), (), (), (), (), (), (), (), (), (), (), (), (), (), (), (), (), (), (), (), (), (), (), (), (), (), (), (), (), (), (), (), (), (), (), (), (), (), (), (), (), (), (), (), (), (), (), (), (), (), (), (), (), (), (), (), (), (), (), (), (), (), (), (), (), (), (), (), (), (), (), (), (), (), (), (), (), (), (), (), (), (), (), (), (), (), (), (), (), (), (), (), (), (), (), (), (), (), (), (), (), (), (), (), (), (), (), (), (), (), (), (), (), (), (), ()), ((y3, y4, y5, ()), ())))) m a.1.1 a.1.2.1 a.1.2.2.2.2.2.2.1 a.1.2.2.2.2.2.2.2.1 a.2.1.1 a.2.1.2.1 a.2.1.2.2.1
noncomputable def affidavitref02_Proof.H0 {R : Type} (k : Nat) (st : St) (K : Ex → St → Option R) : Option R := hookL (fun st K => aCode Cx 27 (callT k affidavitref02_Proof.T) k (lc Try.f27 0) 0 st K) (Cx.hint 27 0) k affidavitref02_Proof.s0.dec (affidavitref02_Proof.Q0 k) st K
theorem affidavitref02_Proof.h0 {R : Type} (k : Nat) (st : St) (K : Ex → St → Option R) : affidavitref02_Proof.H0 k st K = aCode Cx 27 (callT k affidavitref02_Proof.T) k (.loop (lc Try.f27 0)) 0 st K :=
  hookL_eq Sh.dec_ok (Φ := affidavitref02_Proof.P0 k) (fun K a => rfl) (fun K m a => rfl) (fun K m a => loop_step (hookOf [(2, affidavitref02_Proof.H2 k)]) (allL (l' := [(2, lc Try.f27 2)]) (by kernel_rfl) ⟨affidavitref02_Proof.h2 k, trivial⟩) K m _ (by kernel_rfl)) st K
abbrev affidavitref02_Proof.s4 : Sh := ⟨[.one (.vsl tProof), .one (.int .i64), u, u, u, .one (.ptr0 0 0), u, u, u, u, .one (.int .i64), u, u, u, u, u, u, u, u, u, u, u, u, u, u, u, u, u, u, u, u, u, u, u, u, u, u, u, u, u, u, u, u, u, u, u, u, u, u, u, u, u, u, u, u, u, u, u, u, u, u, u, u, u, u, u, u, u, u, u, u, u, u, u, u, u, u, u, u, u, u, u, u, u, u, u, u, u, u, u, u, u, u, u, u, u, u, u, u, u, u, u, u, u, u, u, u, u, u, u, u, u, u, u, u, u, u, u, u, u, u, u, u, u, u, u, u, u, u, u, u, u, u, u, u, u, u, u, u, u, u, u, u, u, u, u, u, u, u, u, u, u, u, u, u, u, u, u, u, u, u, u, u, u, u, u], [.box tProof [.int .u64, .int .u64, .vsl tPart]], []⟩
abbrev affidavitref02_Proof.e4_0 : Sh := ⟨[u, u, u, u, .one (.bool), u, u, u, u, u, u, u, u, u, u, u, u, u, u, u, u, u, u, u, u, u, u, u, u, u, u, u, u, u, u, u, u, u, u, u, u, u, u, u, u, u, u, u, u, u, u, u, u, u, u, u, u, u, u, u, u, u, u, u, u, u, u, u, u, u, u, u, u, u, u, u, u, u, u, u, u, u, u, u, u, u, u, u, u, u, u, u, u, u, u, u, u, u, u, u, u, u, u, u, u, u, u, u, u, u, u, u, u, u, u, u, u, u, u, u, u, u, u, u, u, u, u, u, u, u, u, u, u, u, u, u, u, u, u, u, u, u, u, u, u, u, u, u, u, u, u, u, u, u, u, u, u, u, u, u, u, u, u, u, u, u], [], []⟩
abbrev affidavitref02_Proof.e4_1 : Sh := ⟨[u, u, u, u, u, u, u, u, u, u, u, u, u, u, u, u, u, u, u, u, u, u, u, u, u, u, u, u, u, u, u, u, u, u, u, u, u, u, u, u, u, u, u, u, u, u, u, u, u, u, u, u, u, u, u, u, u, u, u, u, u, u, u, u, u, u, u, u, u, u, u, u, u, u, u, u, u, u, u, u, u, u, u, u, u, u, u, u, u, u, u, u, u, u, u, u, u, u, u, u, u, u, u, u, u, u, u, u, u, u, u, u, u, u, u, u, u, u, u, u, u, u, u, u, u, u, u, u, u, u, u, u, u, u, u, u, u, u, u, u, u, u, u, u, u, u, u, u, u, u, u, u, u, u, u, u, u, u, u, u, u, u, u, u, u, u], [], []⟩
noncomputable def affidavitref02_Proof.P4 {R : Type} (k : Nat) (K : Ex → St → Option R) (rec_ : affidavitref02_Proof.s4.den → Option R) (a : affidavitref02_Proof.s4.den) : Option R := affidavitref02_Proof.B4 k (fun y0 => K .ret (affidavitref02_Proof.e4_0.enc (((), (), (), (), y0, (), (), (), (), (), (), (), (), (), (), (), (), (), (), (), (), (), (), (), (), (), (), (), (), (), (), (), (), (), (), (), (), (), (), (), (), (), (), (), (), (), (), (), (), (), (), (), (), (), (), (), (), (), (), (), (), (), (), (), (), (), (), (), (), (), (), (), (), (), (), (), (), (), (), (), (), (), (), (), (), (), (), (), (), (), (), (), (), (), (), (), (), (), (), (), (), (), (), (), (), (), (), (), (), (), (), (), (), (), (), (), (), (), (), (), (), (), (), (), (), (), (), (), (), (), (), (), (), (), (), (), (), (), (), (), (), (), (), (), (), (), (), (), (), (), (), (), (), (), (), (), (), (), (), (), (), (), (), (), (), (), ()), ()))) (fun _ => K (.exit 4) (affidavitref02_Proof.e4_1.enc (((), (), (), (), (), (), (), (), (), (), (), (), (), (), (), (), (), (), (), (), (), (), (), (), (), (), (), (), (), (), (), (), (), (), (), (), (), (), (), (), (), (), (), (), (), (), (), (), (), (), (), (), (), (), (), (), (), (), (), (), (), (), (), (), (), (), (), (), (), (), (), (), (), (), (), (), (), (), (), (), (), (), (), (), (), (), (), (), (), (), (), (), (), (), (), (), (), (), (), (), (), (), (), (), (), (), (), (), (), (), (), (), (), (), (), (), (), (), (), (), (), (), (), (), (), (), (), (), (), (), (), (), (), (), (), (), (), (), (), (), (), (), (), (), (), (), (), (), (), (), (), (), (), (), (), (), (), (), (), (), (), (), (), (), (), (), ()), ()))) (fun v0 v1 v2 v3 v4 v5 => rec_ ((v0, v1, (), (), (), (), (), (), (), (), v2, (), (), (), (), (), (), (), (), (), (), (), (), (), (), (), (), (), (), (), (), (), (), (), (), (), (), (), (), (), (), (), (), (), (), (), (), (), (), (), (), (), (), (), (), (), (), (), (), (), (), (), (), (), (), (), (), (), (), (), (), (), (), (), (), (), (), (), (), (), (), (), (), (), (), (), (), (), (), (), (), (), (), (), (), (), (), (), (), (), (), (), (), (), (), (), (), (), (), (), (), (), (), (), (), (), (), (), (), (), (), (), (), (), (), (), (), (), (), (), (), (), (), (), (), (), (), (), (), (), (), (), (), (), (), (), (), (), (), (), (), (), (), (), (), (), (), (), (), (), (), (), (), (), (), (), ()), ((v3, v4, v5, ()), ()))) a.1.1 a.1.2.1 a.1.2.2.2.2.2.2.2.2.2.2.1 a.2.1.1 a.2.1.2.1 a.2.1.2.2.1
noncomputable def affidavitref02_Proof.Q4 {R : Type} (k : Nat) (K : Ex → St → Option R) (m : Nat) (a : affidavitref02_Proof.s4.den) : Option R := affidavitref02_Proof.L4 k (fun y0 => K .ret (affidavitref02_Proof.e4_0.enc (((), (), (), (), y0, (), (), (), (), (), (), (), (), (), (), (), (), (), (), (), (), (), (), (), (), (), (), (), (), (), (), (), (), (), (), (), (), (), (), (), (), (), (), (), (), (), (), (), (), (), (), (), (), (), (), (), (), (), (), (), (), (), (), (), (), (), (), (), (), (), (), (), (), (), (), (), (), (), (), (), (), (), (), (), (), (), (), (), (), (), (), (), (), (), (), (), (), (), (), (), (), (), (), (), (), (), (), (), (), (), (), (), (), (), (), (), (), (), (), (), (), (), (), (), (), (), (), (), (), (), (), (), (), (), (), (), (), (), (), (), (), (), (), (), (), (), (), (), (), (), (), (), (), (), (), (), (), (), (), (), (), (), (), (), (), (), ()), ()))) (fun _ => K (.exit 4) (affidavitref02_Proof.e4_1.enc (((), (), (), (), (), (), (), (), (), (), (), (), (), (), (), (), (), (), (), (), (), (), (), (), (), (), (), (), (), (), (), (), (), (), (), (), (), (), (), (), (), (), (), (), (), (), (), (), (), (), (), (), (), (), (), (), (), (), (), (), (), (), (), (), (), (), (), (), (), (), (), (), (), (), (), (), (), (), (), (), (), (), (), (), (), (), (), (), (), (), (), (), (), (), (), (), (), (), (), (), (), (), (), (), (), (), (), (), (), (), (), (), (), (), (), (), (), (), (), (), (), (), (), (), (), (), (), (), (), (), (), (), (), (), (), (), (), (), (), (), (), (), (), (), (), (), (), (), (), (), (), (), (), (), (), (), (), (), (), (), (), (), (), (), (), (), ()), ()))) m a.1.1 a.1.2.1 a.1.2.2.2.2.2.2.2.2.2.2.1 a.2.1.1 a.2.1.2.1 a.2.1.2.2.1
noncomputable def affidavitref02_Proof.H4 {R : Type} (k : Nat) (st : St) (K : Ex → St → Option R) : Option R := hookL (fun st K => aCode Cx 27 (callT k affidavitref02_Proof.T) k (lc Try.f27 4) 4 st K) (Cx.hint 27 4) k affidavitref02_Proof.s4.dec (affidavitref02_Proof.Q4 k) st K
theorem affidavitref02_Proof.h4 {R : Type} (k : Nat) (st : St) (K : Ex → St → Option R) : affidavitref02_Proof.H4 k st K = aCode Cx 27 (callT k affidavitref02_Proof.T) k (.loop (lc Try.f27 4)) 4 st K :=
  hookL_eq Sh.dec_ok (Φ := affidavitref02_Proof.P4 k) (fun K a => rfl) (fun K m a => rfl) (fun K m a => loop_step (hookOf []) (allL (l' := []) (by kernel_rfl) trivial) K m _ (by kernel_rfl)) st K
abbrev affidavitref02_Proof.as : List AS := [.ty (.sl tProof), .ty (.int .i64)]
abbrev affidavitref02_Proof.hs : List SS := []
abbrev affidavitref02_Proof.rts : List CV := []
abbrev affidavitref02_Proof.rs : VS := .one (.bool)
noncomputable def affidavitref02_Proof.g : Nat → {R : Type} → HA affidavitref02_Proof.as × HS affidavitref02_Proof.hs → (affidavitref02_Proof.rs.den → Option R) → Option R := fun k {R} a ret => affidavitref02_Proof.f k a.1.1 a.1.2.1 (fun y0 => ret y0)
noncomputable def affidavitref02_Proof.E : Entry Try.prog Cx pr where
  id := 27
  args := affidavitref02_Proof.as
  heap := affidavitref02_Proof.hs
  roots := affidavitref02_Proof.rts
  res := affidavitref02_Proof.rs
  f := affidavitref02_Proof.g
  ok := entry_ok (args := affidavitref02_Proof.as) (heap := affidavitref02_Proof.hs) (roots := affidavitref02_Proof.rts) (res := affidavitref02_Proof.rs) (f := affidavitref02_Proof.g) rfl Try.func27 affidavitref02_Proof.T rfl (fun a K => rfl) (fun k {R} a K => fun_step (c := (Try.f27.body).getD .skip) (by kernel_rfl) (hookOf [(0, affidavitref02_Proof.H0 k), (4, affidavitref02_Proof.H4 k)]) (allL (l' := [(0, lc Try.f27 0), (4, lc Try.f27 4)]) (by kernel_rfl) ⟨affidavitref02_Proof.h0 k, affidavitref02_Proof.h4 k, trivial⟩) _ K (by kernel_rfl))

end Go.Proofs.Ytanpdkllnmeenaa.M

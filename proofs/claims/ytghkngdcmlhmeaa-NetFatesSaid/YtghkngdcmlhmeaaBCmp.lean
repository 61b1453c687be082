/- bytes.Compare: the order of two rows of bytes, as the model's entry tells it. -/
import Derived.Test.YtghkngdcmlhmeaaProg
import Derived.Test.YtghkngdcmlhmeaaWWords
import Derived.Test.YtghkngdcmlhmeaaWLast
import Derived.Laws.Externs
import Derived.Lib.BytesEntry
set_option linter.unusedVariables false
set_option linter.unusedSimpArgs false
set_option linter.unusedSectionVars false
namespace Go.Proofs.Ytghkngdcmlhmeaa.Bc
open Go.RowKit Go.Proofs Go.Proofs.YtghkngdcmlhmeaaW.PrintWords Go.Proofs.YtghkngdcmlhmeaaW.PrintLast
/-- The order of two lists of bytes: -1, 0 or 1. -/
def cmpB (l m : List Int) : Int := Lib.compareBytes (Lib.bytesOf l) (Lib.bytesOf m)
theorem run_bytesOf {P : Program} {w : World} {A : Option Addr} {c : Nat} {l : List Int} (h : Kd.C (Kd.int .u8) w A l.length l) : ∃ s : ByteArray, (Extern.Bytes.bytesOf (.slice A l.length c)).run P w = .ok s w ∧ s.data.toList = Lib.bytesOf l := by
  cases A with
  | none =>
    have e : l = [] := by
      cases l with
      | nil => rfl
      | cons x r =>
        obtain ⟨ad, e, _⟩ := h.2.2 (by simp)
        cases e
    subst e
    exact ⟨.empty, rfl, rfl⟩
  | some a =>
    by_cases hn : 0 < l.length
    · obtain ⟨ad, e, hc⟩ := h.2.2 hn
      injection e with e
      subst e
      have hl := Lib.run_loadBytesX (P := P) w l a .empty (fun j x hj => by
        obtain ⟨c', h1, h2, h3⟩ := hc j x hj
        have h2' : c' = [.int .u8 x] := h2
        subst h2'
        have := h3 0 _ rfl
        rwa [show ((Kd.int .u8)).sz = 1 from rfl, Nat.mul_one, Nat.add_zero] at this)
      refine ⟨_, hl, ?_⟩
      show (#[] ++ (Lib.bytesOf l).toArray).toList = _
      simp
    · have e : l = [] := List.eq_nil_of_length_eq_zero (by omega)
      subst e
      exact ⟨.empty, rfl, rfl⟩
theorem run_compare {P : Program} {w : World} {A B : Option Addr} {c d : Nat} {l m : List Int} (h1 : Kd.C (Kd.int .u8) w A l.length l) (h2 : Kd.C (Kd.int .u8) w B m.length m) :
    (Extern.BytealgCompare.compare #[.slice A l.length c, .slice B m.length d]).run P w = .ok (.int .i64 (cmpB l m)) w := by
  obtain ⟨s, hs, es⟩ := run_bytesOf (P := P) (c := c) h1
  obtain ⟨t, ht, et⟩ := run_bytesOf (P := P) (c := d) h2
  change Sem.run P (do pure (goInt (Extern.BytealgCompare.cmp (← Extern.Bytes.bytesOf (.slice A l.length c)) (← Extern.Bytes.bytesOf (.slice B m.length d))))) w = _
  simp only [Sem.run_bind, Sem.run_pure, Result.andThen, hs, ht]
  rw [Lib.cmp_eq, es, et]
  rfl
set_option maxHeartbeats 1000000 in
set_option maxRecDepth 100000 in
theorem bcmp.calls (A1 : Option Addr) (c1 : Nat) (l1 : List Int) (A2 : Option Addr) (c2 : Nat) (l2 : List Int) (w : World) (hr1 : Kd.C (Kd.int .u8) w A1 l1.length l1) (hr2 : Kd.C (Kd.int .u8) w A2 l2.length l2) :
    Calls Try.prog 52 #[.slice A1 l1.length c1, .slice A2 l2.length c2] w fun e w' => e = .returned (.int .i64 (cmpB l1 l2)) ∧ Drawn0 w w' := by
  go_enter Try.func52, Try.ntmps52
  go_wp2
  rw [run_callFunc_extern Try.func58 (by kernel_rfl) (by kernel_rfl) (by kernel_rfl) (e := Extern.BytealgCompare.compare) (by kernel_rfl), run_compare hr1 hr2]
  simp only [Result.andThen]
  rw [Oper.upon_value]
  go_wp2
  go_ret
  exact ⟨rfl, Drawn0.refl _⟩
end Go.Proofs.Ytghkngdcmlhmeaa.Bc

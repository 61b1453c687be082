/- Functions: what the machine says of them is so. -/
import Derived.Test.YtanpdkllnmeenaaAmPerm
import Derived.Test.YtanpdkllnmeenaaAmDet
namespace Go.Proofs.Ytanpdkllnmeenaa.Am
open Go Go.RowKit
set_option linter.unusedVariables false
set_option linter.unusedSectionVars false
set_option linter.unusedSimpArgs false
def exOf : Ex → Exit
  | .normal => .normal | .exit id => .exit id | .ret => .ret
def QQ {R : Type} (L : Nat → Prop) (X : List Value) (w0 : World) (F0 : Nat → Prop) (K : Ex → St → Option R) (out : R) : Exit → Act → World → Prop := fun e a w => ∃ e' st, e = exOf e' ∧ K e' st = some out ∧ Sim L w0 F0 X st a w
section
variable {P : Program} {C : Ctx} {F F' F1 F'' : Nat → Prop} {w w' : World} {β β' β0 : Bd} {H H' H1 G H0 : Heap}
variable {L : Nat → Prop} {X : List Value} {w0 : World} {F0 : Nat → Prop} {n : Nat} {sl : List Slot} {env : List AV} {a : Act} {o : Oper} {v : AV} {base : Nat → Prop} {D : Nat → Prop} {st st' : St}
theorem sim_drew (h : Sim L w0 F0 X st a w) : Sim L w0 F0 X st a { w with drawn := w.drawn + 1 } := by
  obtain ⟨F, β, gd, hd, hsz, henv⟩ := h
  have kp : Keeps F F w { w with drawn := w.drawn + 1 } β β st.heap st.heap := ⟨fun _ h => h, fun _ _ => rfl, fun _ _ h => h, fun h s hs => ⟨s, hs, like_refl s⟩⟩
  refine ⟨F, β, ⟨⟨gd.below.os, gd.below.tape, gd.below.output, gd.below.size, gd.below.block⟩, gd.fsz, gd.f0, gd.f1, fun h u hu => ?_, gd.sep⟩, ⟨hd.1, hd.2.mono fun _ _ => RepV.mono kp⟩, hsz, fun t => (henv t).mono kp⟩
  obtain ⟨s, h1, h2⟩ := gd.dom h u hu
  exact ⟨s, h1, h2.keep kp fun _ g _ => ⟨rfl, id⟩⟩
theorem exists_least {p : Nat → Prop} (h : ∃ n, p n) : ∃ n, p n ∧ ∀ m, p m → n ≤ m := by
  obtain ⟨n, hn⟩ := h
  induction n using Nat.strongRecOn with
  | _ n ih =>
    by_cases hh : ∃ m, m < n ∧ p m
    · obtain ⟨m, hm, hp⟩ := hh
      exact ih m hm hp
    · exact ⟨n, hn, fun m hm => Nat.le_of_not_lt fun hlt => hh ⟨m, hlt, hm⟩⟩
open Classical in
noncomputable def least (p : Nat → Prop) : Nat := if h : ∃ n, p n then Classical.choose (exists_least h) else 0
theorem least_spec {p : Nat → Prop} (h : ∃ n, p n) : p (least p) ∧ ∀ m, p m → least p ≤ m := by
  unfold least
  rw [dif_pos h]
  exact Classical.choose_spec (exists_least h)
theorem loop_ok {R : Type} {c : Code} {B : St → (Ex → St → Option R) → Option R} {l : LH} {K : Ex → St → Option R} {out : R} (hB : ∀ st (K : Ex → St → Option R) a w, B st K = some out → Sim L w0 F0 X st a w → c.wp P (QQ L X w0 F0 K out) a w)
    {m : Nat} (h : loopK B l K m st = some out) (hs : Sim L w0 F0 X st a w) : (Code.loop c).wp P (QQ L X w0 F0 K out) a w := by
  let J : Act → World → Nat → Prop := fun a w m => ∃ st, loopK B l K m st = some out ∧ Sim L w0 F0 X st a w
  refine wp_loop (fun a w => ∃ m, J a w m) (fun a w => least (J a w)) ⟨m, st, h, hs⟩ ?_
  intro a w hI
  obtain ⟨⟨st, hk, hsim⟩, hmin⟩ := least_spec hI
  revert hmin
  cases hm : least (J a w) with
  | zero => rw [hm] at hk; simp [loopK] at hk
  | succ m =>
    intro hmin
    rw [hm] at hk
    simp only [loopK] at hk
    refine wp_mono (hB st _ a w hk hsim) ?_
    rintro e a' w' ⟨e', st', rfl, hK, hs'⟩
    cases e' with
    | normal =>
      simp only [] at hK
      split at hK
      · rename_i s hn
        have hJ : J a' w' m := ⟨s, hK, prep_ok hn hs'⟩
        refine ⟨⟨m, hJ⟩, ?_⟩
        have := (least_spec (p := J a' w') ⟨m, hJ⟩).2 m hJ
        show least (J a' w') < m + 1
        omega
      · simp at hK
    | exit id =>
      simp only [] at hK
      split at hK
      · rename_i s hn; exact ⟨.exit id, s, rfl, hK, prep_ok hn hs'⟩
      · simp at hK
    | ret =>
      simp only [] at hK
      split at hK
      · rename_i s hn; exact ⟨.ret, s, rfl, hK, prep_ok hn hs'⟩
      · simp at hK
theorem code_ok {R : Type} {call : CallK R} (hc : CallS P call) (cx : CtxOk P C) {fid : FuncId} {k : Nat} {out : R} : ∀ (c : Code) (id : Nat) (st : St) (K : Ex → St → Option R) (a : Act) (w : World), aCode C fid call k c id st K = some out → Sim L w0 F0 X st a w → c.wp P (QQ L X w0 F0 K out) a w := by
  intro c
  induction c with
  | skip => intro id st K a w h hs; exact wp_skip ⟨.normal, st, rfl, h, hs⟩
  | region i ops draw =>
    intro id st K a w h hs
    simp only [aCode] at h
    split at h
    case h_2 => simp at h
    rename_i ops' q lt hq
    unfold drawn at hq
    cases draw with
    | false =>
      simp only [Option.some.injEq, Prod.mk.injEq] at hq
      obtain ⟨rfl, rfl, rfl⟩ := hq
      exact wp_region_list (opsK_ok hc cx _ _ _ _ _ _ _ h hs fun st' a' w' h' hs' => ⟨.normal, st', rfl, h', hs'⟩)
    | true =>
      simp only [] at hq
      split at hq
      · rename_i p hp
        simp only [Option.some.injEq, Prod.mk.injEq] at hq
        obtain ⟨rfl, rfl⟩ := hq
        exact wp_region_any cx.mixed (draw_ok hc cx hp h (sim_drew hs) fun st' a' w' h' hs' => ⟨.normal, st', rfl, h', hs'⟩)
      · simp only [Option.map_eq_some_iff, Prod.mk.injEq] at hq
        obtain ⟨p, hp, rfl, rfl⟩ := hq
        obtain ⟨o1, o2, o3⟩ := ord_perm ops
        have h1 := draw_ok hc cx hp h (sim_drew hs) (Q := QQ L X w0 F0 K out) fun st' a' w' h' hs' => ⟨.normal, st', rfl, h', hs'⟩
        rw [reord_size o1 o2 o3] at h1
        refine wp_region_any cx.mixed (perm_any o1 o2 o3 _ _ _ _ _ (by simp) (by simp) (fun i hi => ?_) h1)
        rw [Array.getD_eq_getD_getElem?, Array.getD_eq_getD_getElem?, Array.getElem?_replicate, Array.getElem?_replicate, if_pos hi, if_pos (pos_lt o1 o2 o3 hi)]
  | seq x y ihx ihy =>
    intro id st K a w h hs
    simp only [aCode] at h
    refine wp_seq (wp_mono (ihx _ _ _ _ _ h hs) ?_)
    rintro e a' w' ⟨e', st', rfl, hK, hs'⟩
    cases e' with
    | normal => exact ihy _ _ _ _ _ hK hs'
    | exit id => exact ⟨.exit id, st', rfl, hK, hs'⟩
    | ret => exact ⟨.ret, st', rfl, hK, hs'⟩
  | cond c x y ihx ihy =>
    intro id st K a w h hs
    simp only [aCode] at h
    split at h
    case h_3 => simp at h
    case h_2 =>
      rename_i t
      cases t with
      | true => exact wp_cond_true rfl (ihx id st K a w h hs)
      | false => exact wp_cond_false rfl (ihy id st K a w h hs)
    rename_i d
    split at h
    case h_2 => simp at h
    rename_i t ht
    obtain ⟨F, β, gd, hd, hsz, henv⟩ := hs
    have hb := env_bool (henv d) ht
    have hev : a.eval (.tmp d) = .bool t := by simp [Act.eval, Array.getD_eq_getD_getElem?, hb]
    have hset := set_same (x := .one (.bool t)) ht (by simp)
    cases t with
    | true =>
      simp only [hset] at h
      exact wp_cond_true hev (ihx id st K a w h ⟨F, β, gd, hd, hsz, henv⟩)
    | false =>
      simp only [hset] at h
      exact wp_cond_false hev (ihy id st K a w h ⟨F, β, gd, hd, hsz, henv⟩)
  | block i c ih =>
    intro id st K a w h hs
    simp only [aCode] at h
    refine wp_block (wp_mono (ih _ _ _ _ _ h hs) ?_)
    rintro e a' w' ⟨e', st', rfl, hK, hs'⟩
    cases e' with
    | normal => exact ⟨.normal, st', rfl, hK, hs'⟩
    | ret => exact ⟨.ret, st', rfl, hK, hs'⟩
    | exit j =>
      simp only [] at hK
      show if j = i then _ else _
      split at hK
      · rename_i hj; rw [if_pos hj]; exact ⟨.normal, st', rfl, hK, hs'⟩
      · rename_i hj; rw [if_neg hj]; exact ⟨.exit j, st', rfl, hK, hs'⟩
  | loop c ih =>
    intro id st K a w h hs
    simp only [aCode] at h
    split at h
    · rename_i s hn
      exact loop_ok (fun st K a w h hs => ih _ _ _ _ _ h hs) h (prep_ok hn hs)
    · simp at h
  | exit i => intro id st K a w h hs; exact wp_exit ⟨.exit i, st, rfl, h, hs⟩
  | ret => intro id st K a w h hs; exact wp_ret ⟨.ret, st, rfl, h, hs⟩
  | _ => intro id st K a w h hs; simp [aCode] at h
end
end Go.Proofs.Ytanpdkllnmeenaa.Am

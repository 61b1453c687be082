/- Rules of rows of numbers modulo p: what a rule is, that none shorter obeys, and Massey's step. Plain algebra, no program in it. -/
import Derived.Test.YtffcjgelcdilcaaPl
set_option linter.unusedVariables false
set_option linter.unusedSimpArgs false
set_option linter.unusedSectionVars false
namespace Fp
open Classical
namespace Pl
section
variable {p : Nat} [NeZero p]

/-- C is a rule, of length L, of the first N numbers of S. -/
structure Rl (S C : Nat → Fin p) (L N : Nat) : Prop where
  one : C 0 = 1
  deg : ∀ i, L < i → C i = 0
  nul : ∀ j, L ≤ j → j < N → cv C S j = 0

theorem cv_add' (f g h : Nat → Fin p) (n : Nat) : cv (fun i => f i + g i) h n = cv f h n + cv g h n := by
  rw [cv_comm, cv_add, cv_comm h f, cv_comm h g]
theorem cv_smul (c : Fin p) (f h : Nat → Fin p) (n : Nat) : cv f (fun i => c * h i) n = c * cv f h n := by
  unfold cv
  rw [← sm_mul]
  exact sm_congr fun i _ => by grind
theorem cv_smul' (c : Fin p) (f h : Nat → Fin p) (n : Nat) : cv (fun i => c * f i) h n = c * cv f h n := by
  rw [cv_comm, cv_smul, cv_comm]
theorem cv_congr {f f' g g' : Nat → Fin p} {n : Nat} (hf : ∀ i, i ≤ n → f i = f' i) (hg : ∀ i, i ≤ n → g i = g' i) : cv f g n = cv f' g' n := by
  unfold cv
  exact sm_congr fun i hi => by rw [hf i (by omega), hg (n - i) (by omega)]
/-- A row that is 0 in a stretch, times what is short. -/
theorem cv_short {D F : Nat → Fin p} {l a N : Nat} (hD : ∀ i, l < i → D i = 0) (hF : ∀ j, a ≤ j → j < N → F j = 0) {j : Nat} (h1 : a + l ≤ j) (h2 : j < N) : cv D F j = 0 := by
  unfold cv
  refine sm_eq_zero fun i hi => ?_
  by_cases h : l < i
  · rw [hD i h]; grind
  · rw [hF (j - i) (by omega) (by omega)]; grind
theorem cv_first {D F : Nat → Fin p} {l a N : Nat} (hD : ∀ i, l < i → D i = 0) (hF : ∀ j, a ≤ j → j < N → F j = 0) (h1 : a + l ≤ N) : cv D F N = D 0 * F N := by
  unfold cv
  rw [sm_first, Nat.sub_zero, sm_eq_zero (n := N) (fun i hi => ?_)]
  · grind
  · by_cases h : l < i + 1
    · rw [hD _ h]; grind
    · rw [hF (N - (i + 1)) (by omega) (by omega)]; grind
theorem cv_turn (C D S : Nat → Fin p) (j : Nat) : cv D (cv C S) j = cv C (cv D S) j := by
  rw [← cv_assoc, ← cv_assoc]
  exact cv_congr (fun i _ => cv_comm _ _ _) (fun _ _ => rfl)

theorem Rl.mono {S C : Nat → Fin p} {L N M : Nat} (h : Rl S C L N) (hM : M ≤ N) : Rl S C L M := ⟨h.one, h.deg, fun j h1 h2 => h.nul j h1 (Nat.lt_of_lt_of_le h2 hM)⟩
theorem Rl.up {S C : Nat → Fin p} {L N L' : Nat} (h : Rl S C L N) (hL : L ≤ L') : Rl S C L' N := ⟨h.one, fun i hi => h.deg i (by omega), fun j h1 h2 => h.nul j (by omega) h2⟩
theorem Rl.congr {S S' C : Nat → Fin p} {L N : Nat} (h : Rl S C L N) (hS : ∀ i, i < N → S i = S' i) : Rl S' C L N :=
  ⟨h.one, h.deg, fun j h1 h2 => by rw [← cv_congr (fun _ _ => rfl) (fun i hi => hS i (by omega)), h.nul j h1 h2]⟩
/-- A rule that fails at place N forces length. -/
theorem Rl.lower {S C D : Nat → Fin p} {L l N : Nat} (hC : Rl S C L N) (hd : cv C S N ≠ 0) (hD : Rl S D l (N + 1)) : N + 1 ≤ l + L := by
  apply Nat.le_of_not_lt
  intro hlt
  have e1 : cv D (cv C S) N = cv C S N := by
    rw [cv_first hD.deg hC.nul (by omega), hD.one]; grind
  have e2 : cv C (cv D S) N = 0 := cv_short hC.deg hD.nul (by omega) (by omega)
  rw [cv_turn, e2] at e1
  exact hd e1.symm
/-- No rule is shorter. -/
def Lst (S : Nat → Fin p) (L N : Nat) : Prop := ∀ D l, Rl S D l N → L ≤ l
theorem Lst.mono {S : Nat → Fin p} {L N M : Nat} (h : Lst S L N) (hM : N ≤ M) : Lst S L M := fun D l hD => h D l (hD.mono hM)

/-- Massey's state ahead of place N. -/
structure Ms (S C B : Nat → Fin p) (N L LB r ago : Nat) (left : Fin p) : Prop where
  rule : Rl S C L N
  lst : Lst S L N
  len : L + LB = r
  when_ : r + ago = N
  bdeg : ∀ i, LB < i → B i = 0
  bnul : ∀ j, LB ≤ j → j + 1 < r → cv B S j = 0
  bleft : r = 0 ∨ (0 < r ∧ cv B S (r - 1) = left)
/-- Shifted, and times x. -/
def sh (x : Fin p) (n : Nat) (B : Nat → Fin p) (i : Nat) : Fin p := if n ≤ i then x * B (i - n) else 0
theorem sh_cv (x : Fin p) (n : Nat) (B : Nat → Fin p) (i : Nat) : sh x n B i = cv (fun k => if k = n then x else 0) B i := by
  show sh x n B i = sm (i + 1) (fun k => (if k = n then x else 0) * B (i - k))
  unfold sh
  split
  · rename_i h
    rw [sm_one n (by omega) (fun k _ hk => by rw [if_neg hk]; grind), if_pos rfl]
  · rename_i h
    exact (sm_eq_zero fun k hk => by rw [if_neg (by omega)]; grind).symm
theorem cv_sh (x : Fin p) (n : Nat) (B S : Nat → Fin p) (j : Nat) : cv (sh x n B) S j = sh x n (cv B S) j := by
  rw [cv_congr (fun i _ => sh_cv x n B i) (fun _ _ => rfl), sh_cv, cv_assoc]
theorem Ms.start (S : Nat → Fin p) : Ms S (fun i => if i = 0 then 1 else 0) (fun i => if i = 0 then 1 else 0) 0 0 0 0 0 1 where
  rule := ⟨rfl, fun i hi => if_neg (by omega), fun j _ h => absurd h (by omega)⟩
  lst := fun _ _ _ => Nat.zero_le _
  len := rfl
  when_ := rfl
  bdeg := fun i hi => if_neg (by omega)
  bnul := fun j _ h => absurd h (by omega)
  bleft := .inl rfl
/-- A number that the rule tells. -/
theorem Ms.same {S C B : Nat → Fin p} {N L LB r ago : Nat} {left : Fin p} (h : Ms S C B N L LB r ago left) (hd : cv C S N = 0) : Ms S C B (N + 1) L LB r (ago + 1) left where
  rule := ⟨h.rule.one, h.rule.deg, fun j h1 h2 => by
    by_cases e : j = N
    · rw [e, hd]
    · exact h.rule.nul j h1 (by omega)⟩
  lst := h.lst.mono (by omega)
  len := h.len
  when_ := by have := h.when_; omega
  bdeg := h.bdeg
  bnul := h.bnul
  bleft := h.bleft
/-- The next rule. -/
def nx (C B : Nat → Fin p) (x : Fin p) (n : Nat) (i : Nat) : Fin p := C i - sh x n B i
theorem cv_nx (C B S : Nat → Fin p) (x : Fin p) (n j : Nat) : cv (nx C B x n) S j = cv C S j - sh x n (cv B S) j := by
  rw [← cv_sh]
  have : cv (nx C B x n) S j = cv (fun i => C i + (-1) * sh x n B i) S j := cv_congr (fun i _ => by unfold nx; grind) (fun _ _ => rfl)
  rw [this, cv_add', cv_smul']
  grind
theorem Ms.rule' {S C B : Nat → Fin p} {N L LB r ago : Nat} {left x : Fin p} (h : Ms S C B N L LB r ago left) (hd : cv C S N ≠ 0) (hx : r = 0 ∨ x * left = cv C S N) (L' : Nat) (hL' : L' = max L (N + 1 - L)) :
    Rl S (nx C B x (ago + 1)) L' (N + 1) ∧ Lst S L' (N + 1) := by
  have hw := h.when_
  have hl := h.len
  refine ⟨⟨?_, fun i hi => ?_, fun j h1 h2 => ?_⟩, fun D l hD => ?_⟩
  · show C 0 - sh x (ago + 1) B 0 = 1
    unfold sh
    rw [h.rule.one, if_neg (by omega)]
    grind
  · show C i - sh x (ago + 1) B i = 0
    unfold sh
    rw [h.rule.deg i (by omega)]
    split
    · rw [h.bdeg _ (by omega)]; grind
    · grind
  · rw [cv_nx]
    unfold sh
    by_cases hj : j = N
    · subst hj
      rcases h.bleft with hr | ⟨hr, hb⟩
      · omega
      · rw [if_pos (by omega), show j - (ago + 1) = r - 1 from by omega, hb]
        rcases hx with hx | hx
        · omega
        · rw [hx]; grind
    · rw [h.rule.nul j (by omega) (by omega)]
      split
      · rw [h.bnul _ (by omega) (by omega)]; grind
      · grind
  · have h1 := h.lst D l (hD.mono (by omega))
    have h2 := h.rule.lower hd hD
    omega
/-- A number that it doesn't tell, and the rule is long enough. -/
theorem Ms.kept {S C B : Nat → Fin p} {N L LB r ago : Nat} {left x : Fin p} (h : Ms S C B N L LB r ago left) (hd : cv C S N ≠ 0) (hx : r = 0 ∨ x * left = cv C S N) (hL : N < 2 * L) :
    Ms S (nx C B x (ago + 1)) B (N + 1) L LB r (ago + 1) left := by
  obtain ⟨h1, h2⟩ := h.rule' hd hx L (by omega)
  exact ⟨h1, h2, h.len, by have := h.when_; omega, h.bdeg, h.bnul, h.bleft⟩
/-- A number that it doesn't tell, and the rule becomes longer. -/
theorem Ms.longer {S C B : Nat → Fin p} {N L LB r ago : Nat} {left x : Fin p} (h : Ms S C B N L LB r ago left) (hd : cv C S N ≠ 0) (hx : r = 0 ∨ x * left = cv C S N) (hL : 2 * L ≤ N) :
    Ms S (nx C B x (ago + 1)) C (N + 1) (N + 1 - L) L (N + 1) 0 (cv C S N) := by
  obtain ⟨h1, h2⟩ := h.rule' hd hx (N + 1 - L) (by omega)
  exact ⟨h1, h2, by omega, by omega, h.rule.deg, fun j a b => h.rule.nul j a (by omega), .inr ⟨by omega, rfl⟩⟩

/-! ### What the laws ask -/
theorem Rl.whole (S : Nat → Fin p) (N : Nat) : Rl S (fun i => if i = 0 then 1 else 0) N N := ⟨rfl, fun i hi => if_neg (by omega), fun j h1 h2 => absurd h2 (by omega)⟩
theorem Rl.nought {S : Nat → Fin p} {N : Nat} (h : ∀ i, i < N → S i = 0) : Rl S (fun i => if i = 0 then 1 else 0) 0 N :=
  ⟨rfl, fun i hi => if_neg (by omega), fun j _ hj => sm_eq_zero fun i hi => by rw [h (j - i) (by omega)]; grind⟩
theorem Rl.smul {S C : Nat → Fin p} {L N : Nat} (h : Rl S C L N) (x : Fin p) : Rl (fun i => x * S i) C L N := ⟨h.one, h.deg, fun j h1 h2 => by rw [cv_smul, h.nul j h1 h2]; grind⟩
theorem Rl.add {S T C D : Nat → Fin p} {L l N : Nat} (h : Rl S C L N) (k : Rl T D l N) : Rl (fun i => S i + T i) (cv C D) (L + l) N where
  one := by
    show sm 1 _ = _
    rw [sm_succ, sm_zero]
    show 0 + C 0 * D 0 = 1
    rw [h.one, k.one]; grind
  deg := fun i hi => cv_bound (a := L + 1) (b := l + 1) (fun i hi => h.deg i (by omega)) (fun i hi => k.deg i (by omega)) i (by omega)
  nul := fun j h1 h2 => by
    rw [cv_add]
    have e1 : cv (cv C D) S j = 0 := by
      rw [cv_assoc, ← cv_turn]
      exact cv_short k.deg h.nul (by omega) h2
    have e2 : cv (cv C D) T j = 0 := by
      rw [cv_assoc]
      exact cv_short h.deg k.nul (by omega) h2
    rw [e1, e2]; grind
theorem Rl.tail {S C : Nat → Fin p} {L N : Nat} (h : Rl S C L (N + 1)) : Rl (fun i => S (i + 1)) C L N where
  one := h.one
  deg := h.deg
  nul := fun j h1 h2 => by
    have := h.nul (j + 1) (by omega) (by omega)
    unfold cv at this ⊢
    rw [sm_succ, h.deg (j + 1) (by omega)] at this
    rw [← sm_congr (f := fun i => C i * S (j + 1 - i)) (fun i hi => by show _ = C i * S (j - i + 1); rw [show j + 1 - i = j - i + 1 from by omega])]
    grind
/-- A row that obeys one rule, and another one at twice as many places, obeys the other one. -/
theorem Rl.grow {S C D : Nat → Fin p} {n l N : Nat} (hC : Rl S C n N) (hD : Rl S D l (2 * n)) (hl : l ≤ n) : Rl S D l N := by
  refine ⟨hD.one, hD.deg, fun j => ?_⟩
  induction j using Nat.strongRecOn with
  | _ j ih =>
    intro h1 h2
    by_cases hj : j < 2 * n
    · exact hD.nul j h1 hj
    · have e1 : cv D (cv C S) j = 0 := cv_short hD.deg hC.nul (by omega) h2
      have e2 : cv C (cv D S) j = C 0 * cv D S j := by
        refine cv_first (l := n) (a := l) hC.deg (fun i h1 h2 => ih i h2 h1 (by omega)) (by omega)
      rw [cv_turn, e2, hC.one] at e1
      rw [← e1]; grind
/-- Two rows that go on by one rule from the same beginning are the same. -/
theorem Rl.unique {S T D : Nat → Fin p} {l n N : Nat} (hS : Rl S D l N) (hT : Rl T D l N) (hl : l ≤ n) (h : ∀ i, i < n → S i = T i) : ∀ i, i < N → S i = T i := by
  intro j
  induction j using Nat.strongRecOn with
  | _ j ih =>
    intro hj
    by_cases hn : j < n
    · exact h j hn
    · have e1 := hS.nul j (by omega) hj
      have e2 := hT.nul j (by omega) hj
      unfold cv at e1 e2
      rw [sm_first, Nat.sub_zero, hS.one] at e1
      rw [sm_first, Nat.sub_zero, hT.one, ← sm_congr (f := fun i => D (i + 1) * S (j - (i + 1))) (fun i hi => by rw [ih (j - (i + 1)) (by omega) (by omega)])] at e2
      grind
/-! ### A row's polynomials -/
/-- What a polynomial makes of a row at a place. -/
noncomputable def act (f : Pl p) (S : Nat → Fin p) (i : Nat) : Fin p := sm (sz f) (fun k => f.co k * S (i + k))
theorem act_bound (f : Pl p) (S : Nat → Fin p) (i : Nat) {n : Nat} (h : ∀ i, n ≤ i → f.co i = 0) : act f S i = sm n (fun k => f.co k * S (i + k)) :=
  (sm_more (sz_le h) (fun i hi _ => by rw [sz_zero_from f hi]; grind)).symm
theorem act_add (f g : Pl p) (S : Nat → Fin p) (i : Nat) : act (f + g) S i = act f S i + act g S i := by
  have hf : ∀ i, max (sz f) (sz g) ≤ i → f.co i = 0 := fun i hi => sz_zero_from f (by omega)
  have hg : ∀ i, max (sz f) (sz g) ≤ i → g.co i = 0 := fun i hi => sz_zero_from g (by omega)
  rw [act_bound f S i hf, act_bound g S i hg, act_bound (f + g) S i (n := max (sz f) (sz g)) (fun i hi => by rw [add_at, hf i hi, hg i hi]; grind), ← sm_add]
  exact sm_congr fun i _ => by rw [add_at]; grind
theorem act_mul (f g : Pl p) (S : Nat → Fin p) (i : Nat) : act (f * g) S i = act f (act g S) i := by
  rw [act_bound (f * g) S i (n := sz f + sz g) (fun i hi => cv_bound (fun j hj => sz_zero_from f hj) (fun j hj => sz_zero_from g hj) i (by omega))]
  have h1 : sm (sz f + sz g) (fun m => (f * g).co m * S (i + m)) = sm (sz f + sz g) (fun m => sm (m + 1) (fun j => (fun j k => f.co j * (g.co k * S (i + j + k))) j (m - j))) := by
    refine sm_congr fun m hm => ?_
    rw [mul_at]
    unfold cv
    rw [← sm_mul_right]
    refine sm_congr fun j hj => ?_
    show _ = f.co j * (g.co (m - j) * S (i + j + (m - j)))
    rw [show i + j + (m - j) = i + m from by omega]
    grind
  rw [h1, sm_triangle (sz f + sz g) (fun j k => f.co j * (g.co k * S (i + j + k))), sm_append]
  have h2 : sm (sz g) (fun m => (fun j => sm (sz f + sz g - j) (fun k => (fun j k => f.co j * (g.co k * S (i + j + k))) j k)) (sz f + m)) = 0 := by
    refine sm_eq_zero fun m _ => sm_eq_zero fun k _ => ?_
    show f.co (sz f + m) * (g.co k * S (i + (sz f + m) + k)) = 0
    rw [sz_zero_from f (by omega)]; grind
  rw [h2]
  have h3 : sm (sz f) (fun j => sm (sz f + sz g - j) (fun k => (fun j k => f.co j * (g.co k * S (i + j + k))) j k)) = sm (sz f) (fun j => f.co j * act g S (i + j)) := by
    refine sm_congr fun j hj => ?_
    show sm (sz f + sz g - j) (fun k => f.co j * (g.co k * S (i + j + k))) = _
    rw [sm_mul, act_bound g S (i + j) (n := sz f + sz g - j) (fun i hi => sz_zero_from g (by omega))]
  rw [h3]
  show act f (act g S) i + 0 = _
  grind
/-- A rule, turned. -/
def Tn (C : Nat → Fin p) (L : Nat) (F : Pl p) : Prop := ∀ i, F.co i = if i ≤ L then C (L - i) else 0
theorem act_turned {C : Nat → Fin p} {L : Nat} {F : Pl p} (h : Tn C L F) (hC : ∀ i, L < i → C i = 0) (S : Nat → Fin p) (i : Nat) : act F S i = cv C S (i + L) := by
  rw [act_bound F S i (n := L + 1) (fun k hk => by rw [h k, if_neg (by omega)])]
  rw [← sm_rev]
  unfold cv
  rw [sm_more (n := L + 1) (m := i + L + 1) (by omega) (fun k hk _ => by rw [hC k (by omega)]; grind)]
  refine sm_congr fun k hk => ?_
  rw [h, if_pos (by omega), show L - (L + 1 - 1 - k) = k from by omega, show i + (L + 1 - 1 - k) = i + L - k from by omega]
/-- What kills a row is a rule, over a field. -/
theorem rule_of_act (hp : Fld p) {R : Pl p} (hR : R ≠ 0) {S : Nat → Fin p} {N : Nat} (h : ∀ i, i + sz R ≤ N → act R S i = 0) : ∃ C, Rl S C (sz R - 1) N := by
  have hs := sz_pos hR
  obtain ⟨b, hb⟩ := hp.2 (top R) (top_ne hR)
  refine ⟨fun i => if i ≤ sz R - 1 then R.co (sz R - 1 - i) * b else 0, ?_, fun i hi => if_neg (by omega), fun j h1 h2 => ?_⟩
  · show (if 0 ≤ sz R - 1 then R.co (sz R - 1 - 0) * b else 0) = 1
    rw [if_pos (Nat.zero_le _), Nat.sub_zero]
    exact hb
  · have e := h (j - (sz R - 1)) (by omega)
    rw [act_turned (C := fun i => if i ≤ sz R - 1 then R.co (sz R - 1 - i) else 0) (L := sz R - 1) (fun i => ?_) (fun i hi => if_neg (by omega)), show j - (sz R - 1) + (sz R - 1) = j from by omega] at e
    · have : cv (fun i => if i ≤ sz R - 1 then R.co (sz R - 1 - i) * b else 0) S j = cv (fun i => b * (if i ≤ sz R - 1 then R.co (sz R - 1 - i) else 0)) S j := cv_congr (fun i _ => by
        show (if i ≤ sz R - 1 then R.co (sz R - 1 - i) * b else 0) = b * (if i ≤ sz R - 1 then R.co (sz R - 1 - i) else 0)
        split <;> grind) (fun _ _ => rfl)
      rw [this, cv_smul', e]; grind
    · split
      · show R.co i = if sz R - 1 - i ≤ sz R - 1 then R.co (sz R - 1 - (sz R - 1 - i)) else 0
        rw [if_pos (by omega), show sz R - 1 - (sz R - 1 - i) = i from by omega]
      · exact sz_zero_from R (by omega)
/-- The shortest rule's polynomial divides that of any rule of the row that goes on. -/
theorem Rl.divides (hp : Fld p) {S C D : Nat → Fin p} {n l N : Nat} (hC : Rl S C n N) (hD : Rl S D l N) (hl : l ≤ n) {M : Nat} (hm : Lst S l M) (hM : M + n ≤ N) {A B q r : Pl p} (hA : Tn C n A) (hB : Tn D l B) (hB1 : sz B = l + 1) (hA1 : sz A ≤ n + 1) (hq : A = q * B + r) (hr : sz r < sz B) : r = 0 := by
  apply Classical.byContradiction
  intro h0
  have hr1 := sz_pos h0
  have hqs : sz q ≤ n - l + 1 := by
    by_cases hq0 : q = 0
    · rw [hq0, sz_zero]; exact Nat.zero_le _
    · have hB0 : B ≠ 0 := fun e => by rw [e, sz_zero] at hB1; omega
      have e1 := sz_mul hp hq0 hB0
      have e2 : q * B = A - r := by rw [hq, add_sub_cancel]
      have e3 := sz_sub_le A r
      rw [← e2] at e3
      omega
  obtain ⟨E, hE⟩ := rule_of_act hp h0 (S := S) (N := M) (fun i hi => by
    have e := act_add (q * B) r S i
    rw [← hq, act_turned hA hC.deg, act_mul] at e
    have e4 : act q (act B S) i = 0 := by
      rw [act_bound q _ i (n := n - l + 1) (fun i hi => sz_zero_from q (by omega))]
      refine sm_eq_zero fun k hk => ?_
      rw [act_turned hB hD.deg, hD.nul _ (by omega) (by omega)]; grind
    rw [e4] at e
    rw [hC.nul _ (by omega) (by omega)] at e
    grind)
  have := hm E _ hE
  omega
end
end Pl
end Fp

/- How the machine's values lie in a memory. -/
import Derived.Test.YtanpdkllnmeenaaAmCore
import Derived.Deep.MidRow
import Derived.Laws.AppendOwn
import Derived.Laws.OwnMore
import Derived.Deep.AppendLies
import Derived.Laws.MakeOwn
namespace Go.Proofs.Ytanpdkllnmeenaa.Am
open Go Go.RowKit
set_option linter.unusedVariables false

def RowC {α : Type} (R : α → List Value → Prop) (size : Nat) (xs : List α) (cells : List Value) : Prop :=
  cells.length = xs.length * size ∧ ∀ i x, xs[i]? = some x → R x ((cells.drop (i * size)).take size)
/-! A map is told as a row whose elements are keys and what they have. -/
def mpAgg : Ty → Bool
  | .pair .unit (.pair _ v) => v.isAgg | _ => false
def entCells (agg : Bool) (e : MapEntry) : List Value := e.key :: (match agg, e.val with | true, .agg a => a.toList | _, x => [x])
/-- The value that leads to a row. -/
def hdr (t : Ty) (A : Option Addr) (n c : Nat) : Value := match t.isMp with | true => .map (A.map (·.block)) | false => .slice A n c
/-- How a row lies there. -/
def Lies (t : Ty) (w : World) (g o : Nat) (cells : List Value) : Prop := match t.isMp with
  | true => ∃ arr : Array MapEntry, w.heap[g]? = some (.map arr arr.size) ∧ (∀ (i : Nat) (e : MapEntry), arr[i]? = some e → e.born = i ∧ (entCells (mpAgg t) e).length = t.size ∧ (mpAgg t = true → ∃ a, e.val = .agg a)) ∧ cells = (arr.toList.map (entCells (mpAgg t))).flatten
  | false => w.rangeAt g o cells
/-- A slice of one's own, and its block; it may begin within it. -/
def ownsAt (w : World) (e : TypeId) (size : Nat) (u : Value) (n : Nat) (cells : List Value) : Prop :=
  cells.length = n * size ∧ ((u = .slice none 0 0 ∧ n = 0) ∨
    ∃ g o cap cur, u = .slice (some ⟨g, o, none⟩) n cap ∧ w.heap[g]? = some (.cells cur e (0, 0)) ∧ n ≤ cap ∧ cap ≤ maxLen ∧ o + cap * size ≤ cur.size ∧ (cur.toList.drop o).take (n * size) = cells)
theorem own_of {w : World} {e : TypeId} {size : Nat} {u : Value} {n : Nat} {cells : List Value} (h : w.ownsRow 0 e size u n cells) : ownsAt w e size u n cells :=
  ⟨h.1, h.2.imp id fun ⟨g, cap, cur, h1, _, h2, h3, h4, h5, h6⟩ => ⟨g, 0, cap, cur, h1, h2, h3, h4, by omega, by simpa using h6⟩⟩
/-- A row of one's own. -/
def OwnsT (t : Ty) (w : World) (e : TypeId) (u : Value) (n : Nat) (cells : List Value) : Prop := match t.isMp with
  | true => ∃ g, u = .map (some g) ∧ Lies t w g 0 cells
  | false => ownsAt w e t.size u n cells
theorem hdr_sl {t : Ty} (h : t.isMp = false) (A : Option Addr) (n c : Nat) : hdr t A n c = .slice A n c := by simp [hdr, h]
theorem lies_sl {t : Ty} (h : t.isMp = false) {w : World} {g o : Nat} {cells : List Value} : Lies t w g o cells ↔ w.rangeAt g o cells := by simp [Lies, h]
theorem owns_sl {t : Ty} (h : t.isMp = false) {w : World} {e : TypeId} {u : Value} {n : Nat} {cells : List Value} : OwnsT t w e u n cells ↔ ownsAt w e t.size u n cells := by simp [OwnsT, h]
theorem hdr_one (t : Ty) (A : Option Addr) (n c : Nat) : (hdr t A n c).oneCell' = true := by
  unfold hdr
  split <;> rfl
def RepC (F : Nat → Prop) (w : World) : (t : Ty) → t.den → List Value → Prop
  | .int k, n, cs => cs = [.int k n]
  | .bool, b, cs => cs = [.bool b]
  | .str, s, cs => cs = [.string s]
  | .sl t, xs, cs => ∃ A cap, cs = [hdr t A xs.length cap] ∧ xs.length ≤ cap ∧
      ((xs = [] ∧ (t.isMp = true → A = none)) ∨ ∃ g o cells, A = some ⟨g, o, none⟩ ∧ F g ∧ RowC (RepC F w t) t.size xs cells ∧ Lies t w g o cells)
  | .pair a b, p, cs => ∃ c1 c2, cs = c1 ++ c2 ∧ RepC F w a p.1 c1 ∧ RepC F w b p.2 c2
  | .unit, _, cs => cs = []
  | .opq, _, _ => False
abbrev Bd := Nat → Option Value
def RepPtr (β : Bd) (H : Heap) (h i off : Nat) (v : Value) : Prop :=
  match H[h]? with
  | none => False
  | some .dead => v.oneCell' = true
  | some (.row _ _ t xs) => (t.isMp = false ∧ i < xs.length) ∧ ∃ g o n c, β h = some (.slice (some ⟨g, o, none⟩) n c) ∧ v = .pointer (some ⟨g, o + i * t.size + off, none⟩)
  | some (.box _ _) => i = 0 ∧ ∃ g, β h = some (.pointer (some ⟨g, 0, none⟩)) ∧ v = .pointer (some ⟨g, off, none⟩)
  | some (.iter ..) => False
def RepF (F : Nat → Prop) (w : World) (t : Ty) (x : t.den) (off : Nat) (v : Value) : Prop :=
  ∃ g o cells, v = .pointer (some ⟨g, o + off, none⟩) ∧ F g ∧ RepC F w t x cells ∧ w.rangeAt g o cells
def RepP (F : Nat → Prop) (w : World) (β : Bd) (H : Heap) : PV → Value → Prop
  | .val t x, v => RepC F w t x [v]
  | .agg t x, v => ∃ vs, v = .agg vs ∧ RepC F w t x vs.toList
  | .fptr t x off, v => RepF F w t x off v
  | .ptr h i off, v => RepPtr β H h i off v
inductive All2 {α β : Type} (R : α → β → Prop) : List α → List β → Prop where
  | nil : All2 R [] []
  | cons {a b l m} : R a b → All2 R l m → All2 R (a :: l) (b :: m)
/-- How much room a part of a row of one's own has. -/
def SubCap (b : Option Value) (size : Nat) (A : Option Addr) (l c : Nat) : Prop :=
  (l = 0 ∧ A = none ∧ c = 0) ∨ ∃ g p q n k, b = some (.slice (some ⟨g, p, none⟩) n k) ∧ A = some ⟨g, q, none⟩ ∧ q + c * size ≤ p + k * size ∧ c ≤ k
def RepV (F : Nat → Prop) (w : World) (β : Bd) (H : Heap) : CV → Value → Prop
  | .undef, v => v.oneCell' = true
  | .nils, v => v = .slice none 0 0
  | .int k n, v => v = .int k n
  | .bool b, v => v = .bool b
  | .str s, v => v = .string s
  | .vsl t xs, v => RepC F w (.sl t) xs [v]
  | .own .., _ => False
  | .ref h, v => match H[h]? with
    | none => False
    | some .dead => v.oneCell' = true
    | some (.row ..) => β h = some v ∧ v.oneCell' = true
    | some (.box ..) => False
    | some (.iter ..) => β h = some v ∧ v.oneCell' = true
  | .sub h o l, v => match H[h]? with
    | none => False
    | some .dead => v.oneCell' = true
    | some (.row lv _ t xs) => (t.isMp = false ∧ o + l ≤ xs.length) ∧ ∃ A c, v = .slice A l c ∧ l ≤ c ∧ (l = 0 ∨ ∃ g p n k, β h = some (.slice (some ⟨g, p, none⟩) n k) ∧ A = some ⟨g, p + o * t.size, none⟩) ∧ (lv = true → SubCap (β h) t.size A l c)
    | some (.box ..) => False
    | some (.iter ..) => False
  | .ptr h i off, v => RepPtr β H h i off v
  | .fptr t x off, v => RepF F w t x off v
  | .fn f a b, v => ∃ va vb, v = .func (.func f) va vb ∧ All2 (RepP F w β H) a va.toList ∧ All2 (RepP F w β H) b vb.toList
def RepA (F : Nat → Prop) (w : World) (β : Bd) (H : Heap) : AV → Value → Prop
  | .undef, _ => True
  | .one c, v => RepV F w β H c v
  | .agg cs, v => ∃ vs, v = .agg vs ∧ All2 (RepV F w β H) cs vs.toList
  | .tup us, v => ∃ vs, v = .tuple vs ∧ All2 (fun u v => match u with
      | (true, cs) => ∃ ws, v = .agg ws ∧ All2 (RepV F w β H) cs ws.toList
      | (false, cs) => ∃ c, cs = [c] ∧ RepV F w β H c v) us vs.toList
def blk : Value → Option Nat
  | .slice (some a) _ _ => some a.block
  | .map r => r
  | .pointer (some a) => some a.block
  | _ => none
/-- What a function may write: what it makes, and what it is lent. -/
abbrev Bs (L : Nat → Prop) (w0 : World) : Nat → Prop := fun g => w0.heap.size ≤ g ∨ L g
/-- What was there stays, but what is lent. -/
structure BelowL (L : Nat → Prop) (w w' : World) : Prop where
  os : w'.os = w.os
  tape : w'.tape = w.tape
  output : w'.output = w.output
  size : w.heap.size ≤ w'.heap.size
  block : ∀ k, k < w.heap.size → ¬ L k → w'.heap[k]? = w.heap[k]?
theorem BelowL.refl (L : Nat → Prop) (w : World) : BelowL L w w := ⟨rfl, rfl, rfl, Nat.le_refl _, fun _ _ _ => rfl⟩
theorem BelowL.trans {L : Nat → Prop} {a b c : World} (h : BelowL L a b) (k : Below b.heap.size b c) : BelowL L a c :=
  ⟨k.os.trans h.os, k.tape.trans h.tape, k.output.trans h.output, Nat.le_trans h.size k.size, fun i hi hl => (k.block i (Nat.lt_of_lt_of_le hi h.size)).trans (h.block i hi hl)⟩
theorem BelowL.write {L : Nat → Prop} {a b c : World} (h : BelowL L a b) (h1 : c.os = b.os) (h2 : c.tape = b.tape) (h3 : c.output = b.output) (h4 : b.heap.size ≤ c.heap.size) (h5 : ∀ k, k < b.heap.size → ¬ Bs L a k → c.heap[k]? = b.heap[k]?) : BelowL L a c :=
  ⟨h1.trans h.os, h2.trans h.tape, h3.trans h.output, Nat.le_trans h.size h4, fun i hi hl => (h5 i (Nat.lt_of_lt_of_le hi h.size) (fun h => h.elim (fun h => absurd hi (Nat.not_lt.2 h)) hl)).trans (h.block i hi hl)⟩
/-- A value of a type, in one piece. -/
def ValR (F : Nat → Prop) (w : World) (v : Ty) (x : Value) (y : v.den) : Prop := match v.isAgg with
  | true => ∃ a, x = .agg a ∧ RepC F w v y a.toList
  | false => RepC F w v y [x]
def EntR (F : Nat → Prop) (w : World) (k : IntKind) (v : Ty) (e : MapEntry) (x : Unit × Int × v.den) : Prop := e.key = .int k x.2.1 ∧ ValR F w v e.val x.2.2
def MapR (F : Nat → Prop) (w : World) (k : IntKind) (v : Ty) (arr : Array MapEntry) (xs : List (Unit × Int × v.den)) : Prop :=
  (∀ (i : Nat) (e : MapEntry), arr[i]? = some e → e.born = i) ∧ All2 (EntR F w k v) arr.toList xs
/-- A range over a map that stays. -/
def IterR (base F : Nat → Prop) (w : World) (k : IntKind) (v : Ty) (es : List (Unit × Int × v.den)) (seen : List Nat) (u : Value) : Prop :=
  ∃ gi g arr, u = .pointer (some ⟨gi, 0, none⟩) ∧ base gi ∧ ¬ F gi ∧ w.heap[gi]? = some (.mapIter (some g) arr.size seen.toArray arr.size) ∧ F g ∧ w.heap[g]? = some (.map arr arr.size) ∧ MapR F w k v arr es ∧ ∀ i ∈ seen, i < arr.size
def SlotOk (base : Nat → Prop) (F : Nat → Prop) (w : World) (β : Bd) (H : Heap) : Slot → Value → Prop
  | .dead, _ => True
  | .row true e t xs, u => (∃ cells, OwnsT t w e u xs.length cells ∧ RowC (RepC F w t) t.size xs cells) ∧ ∀ g, blk u = some g → base g ∧ ¬ F g
  | .row false e t xs, u => RepC F w (.sl t) xs [u]
  | .box t cs, u => ∃ g arr e, u = .pointer (some ⟨g, 0, none⟩) ∧ base g ∧ w.heap[g]? = some (.cells arr e (0, 0)) ∧ All2 (RepV F w β H) cs arr.toList ∧ ¬ F g
  | .iter k v es seen, u => IterR base F w k v es seen u
def Slot.isLive : Slot → Bool
  | .row l _ _ _ => l | .box .. => true | .dead => false | .iter .. => true
structure Good (L : Nat → Prop) (w0 w : World) (F0 F : Nat → Prop) (β : Bd) (H : Heap) : Prop where
  below : BelowL L w0 w
  fsz : ∀ g, F g → g < w.heap.size
  f0 : ∀ g, F g → ¬ Bs L w0 g → F0 g
  f1 : ∀ g, F0 g → F g
  dom : ∀ h u, β h = some u → ∃ s, H[h]? = some s ∧ SlotOk (Bs L w0) F w β H s u
  sep : ∀ (h h' : Nat) (s s' : Slot) (u u' : Value) (g : Nat), H[h]? = some s → H[h']? = some s' → s.isLive = true → s'.isLive = true → β h = some u → β h' = some u' → blk u = some g → blk u' = some g → h = h'

/-! ### Lists side by side -/
section
variable {α β γ : Type} {R S : α → β → Prop}
theorem All2.mono (h : ∀ a b, R a b → S a b) : ∀ {l m}, All2 R l m → All2 S l m
  | _, _, .nil => .nil
  | _, _, .cons a b => .cons (h _ _ a) (b.mono h)
theorem All2.length : ∀ {l m}, All2 R l m → l.length = m.length
  | _, _, .nil => rfl
  | _, _, .cons _ b => by simp [b.length]
theorem All2.append {l₁ l₂ : List α} {m₁ m₂ : List β} (h : All2 R l₁ m₁) (k : All2 R l₂ m₂) : All2 R (l₁ ++ l₂) (m₁ ++ m₂) := by
  induction h with
  | nil => exact k
  | cons a _ ih => exact .cons a ih
theorem All2.split {l₁ l₂ : List α} : ∀ {m : List β}, All2 R (l₁ ++ l₂) m → ∃ m₁ m₂, m = m₁ ++ m₂ ∧ All2 R l₁ m₁ ∧ All2 R l₂ m₂ := by
  induction l₁ with
  | nil => exact fun h => ⟨[], _, rfl, .nil, h⟩
  | cons a l ih =>
    intro m h
    cases h with
    | cons r h =>
      obtain ⟨m₁, m₂, rfl, h1, h2⟩ := ih h
      exact ⟨_ :: m₁, m₂, rfl, .cons r h1, h2⟩
theorem All2.get : ∀ {l : List α} {m : List β}, All2 R l m → ∀ {i : Nat} {a : α}, l[i]? = some a → ∃ b, m[i]? = some b ∧ R a b
  | _, _, .nil, _, _, h => by simp at h
  | _, _, .cons r t, 0, _, h => by simp at h; subst h; exact ⟨_, rfl, r⟩
  | _, _, .cons r t, i + 1, _, h => by simpa using t.get (by simpa using h)
theorem All2.drop : ∀ {l : List α} {m : List β}, All2 R l m → ∀ n, All2 R (l.drop n) (m.drop n)
  | _, _, .nil, _ => by simp; exact .nil
  | _, _, .cons r t, 0 => .cons r t
  | _, _, .cons r t, n + 1 => by simpa using t.drop n
theorem All2.take : ∀ {l : List α} {m : List β}, All2 R l m → ∀ n, All2 R (l.take n) (m.take n)
  | _, _, .nil, _ => by simp; exact .nil
  | _, _, .cons r t, 0 => .nil
  | _, _, .cons r t, n + 1 => by simpa using .cons r (t.take n)
theorem All2.set : ∀ {l : List α} {m : List β}, All2 R l m → ∀ {a b}, R a b → ∀ n, All2 R (l.set n a) (m.set n b)
  | _, _, .nil, _, _, _, _ => by simp; exact .nil
  | _, _, .cons r t, _, _, h, 0 => .cons h t
  | _, _, .cons r t, _, _, h, n + 1 => by simpa using .cons r (t.set h n)
theorem All2.getR : ∀ {l : List α} {m : List β}, All2 R l m → ∀ {i : Nat} {b : β}, m[i]? = some b → ∃ a, l[i]? = some a ∧ R a b
  | _, _, .nil, _, _, h => by simp at h
  | _, _, .cons r t, 0, _, h => by simp at h; subst h; exact ⟨_, rfl, r⟩
  | _, _, .cons r t, i + 1, _, h => by simpa using t.getR (by simpa using h)
theorem All2.of_get {l : List α} : ∀ {m : List β}, l.length = m.length → (∀ (i : Nat) (a : α) (b : β), l[i]? = some a → m[i]? = some b → R a b) → All2 R l m := by
  induction l with
  | nil => intro m h _; cases m with | nil => exact .nil | cons => simp at h
  | cons a l ih =>
    intro m h k
    cases m with
    | nil => simp at h
    | cons b m => exact .cons (k 0 a b rfl rfl) (ih (by simpa using h) fun i a b h1 h2 => k (i + 1) a b (by simpa using h1) (by simpa using h2))
end

/-! ### What stays -/
section
variable {F F' : Nat → Prop} {w w' : World} {β β' : Bd} {H H' : Heap}
theorem RowC.mono {α : Type} {R S : α → List Value → Prop} {n : Nat} {xs : List α} {cells : List Value} (h : ∀ x cs, R x cs → S x cs) (k : RowC R n xs cells) : RowC S n xs cells :=
  ⟨k.1, fun i x hx => h _ _ (k.2 i x hx)⟩
theorem range_of_block {g o : Nat} {cells : List Value} (h : w'.heap[g]? = w.heap[g]?) (k : w.rangeAt g o cells) : w'.rangeAt g o cells :=
  fun j v hv => (World.cell?_of_block (w := w) (w' := w') (a := ⟨g, o + j, none⟩) h).trans (k j v hv)
theorem lies_of_block {t : Ty} {g o : Nat} {cells : List Value} (h : w'.heap[g]? = w.heap[g]?) (k : Lies t w g o cells) : Lies t w' g o cells := by
  unfold Lies at k ⊢
  cases hm : t.isMp with
  | true =>
    simp only [hm] at k ⊢
    obtain ⟨arr, k1, k2⟩ := k
    exact ⟨arr, h.trans k1, k2⟩
  | false =>
    simp only [hm] at k ⊢
    exact range_of_block h k
theorem RepC.mono (hF : ∀ g, F g → F' g) (hw : ∀ g, F g → w'.heap[g]? = w.heap[g]?) : ∀ {t : Ty} {x : t.den} {cs : List Value}, RepC F w t x cs → RepC F' w' t x cs
  | .int _, _, _, h => h
  | .bool, _, _, h => h
  | .str, _, _, h => h
  | .sl t, xs, cs, ⟨A, cap, h1, h2, h3⟩ => ⟨A, cap, h1, h2, h3.imp id fun ⟨g, o, cells, a, b, c, d⟩ => ⟨g, o, cells, a, hF _ b, c.mono fun _ _ h => RepC.mono hF hw h, lies_of_block (hw g b) d⟩⟩
  | .pair a b, _, _, ⟨c1, c2, h1, h2, h3⟩ => ⟨c1, c2, h1, RepC.mono hF hw h2, RepC.mono hF hw h3⟩
  | .unit, _, _, h => h
  | .opq, _, _, h => h.elim
theorem RepC.len : ∀ {t : Ty} {x : t.den} {cs : List Value}, RepC F w t x cs → cs.length = t.size
  | .int _, _, _, h => by rw [show _ = _ from h]; rfl
  | .bool, _, _, h => by rw [show _ = _ from h]; rfl
  | .str, _, _, h => by rw [show _ = _ from h]; rfl
  | .sl t, xs, cs, ⟨A, cap, h1, _⟩ => by rw [h1]; rfl
  | .pair a b, _, _, ⟨c1, c2, h1, h2, h3⟩ => by rw [h1, List.length_append, h2.len, h3.len]; rfl
  | .unit, _, _, h => by rw [show _ = _ from h]; rfl
  | .opq, _, _, h => h.elim
theorem RepC.one : ∀ {t : Ty} {x : t.den} {cs : List Value}, RepC F w t x cs → ∀ u ∈ cs, u.oneCell' = true
  | .int _, _, _, h, u, hu => by rw [show _ = _ from h] at hu; simp at hu; subst hu; rfl
  | .bool, _, _, h, u, hu => by rw [show _ = _ from h] at hu; simp at hu; subst hu; rfl
  | .str, _, _, h, u, hu => by rw [show _ = _ from h] at hu; simp at hu; subst hu; rfl
  | .sl t, xs, cs, ⟨A, cap, h1, _⟩, u, hu => by rw [h1] at hu; simp at hu; subst hu; exact hdr_one ..
  | .pair a b, _, _, ⟨c1, c2, h1, h2, h3⟩, u, hu => by
    rw [h1] at hu
    rcases List.mem_append.1 hu with hu | hu
    · exact h2.one u hu
    · exact h3.one u hu
  | .unit, _, _, h, u, hu => by rw [show _ = _ from h] at hu; simp at hu
  | .opq, _, _, h, _, _ => h.elim
theorem ValR.mono (hF : ∀ g, F g → F' g) (hw : ∀ g, F g → w'.heap[g]? = w.heap[g]?) {v : Ty} {x : Value} {y : v.den} (h : ValR F w v x y) : ValR F' w' v x y := by
  unfold ValR at h ⊢
  cases hv : v.isAgg with
  | true =>
    simp only [hv] at h ⊢
    obtain ⟨a, h1, h2⟩ := h
    exact ⟨a, h1, h2.mono hF hw⟩
  | false =>
    simp only [hv] at h ⊢
    exact h.mono hF hw
theorem MapR.mono (hF : ∀ g, F g → F' g) (hw : ∀ g, F g → w'.heap[g]? = w.heap[g]?) {k : IntKind} {v : Ty} {arr : Array MapEntry} {xs : List (Unit × Int × v.den)} (h : MapR F w k v arr xs) : MapR F' w' k v arr xs :=
  ⟨h.1, h.2.mono fun e x hx => ⟨hx.1, hx.2.mono hF hw⟩⟩
theorem IterR.base {b base : Nat → Prop} (hB : ∀ g, b g → base g) {k : IntKind} {v : Ty} {es : List (Unit × Int × v.den)} {seen : List Nat} {u : Value} (h : IterR b F w k v es seen u) : IterR base F w k v es seen u := by
  obtain ⟨gi, g, arr, h1, h2, h3⟩ := h
  exact ⟨gi, g, arr, h1, hB _ h2, h3⟩
theorem IterR.mono {base : Nat → Prop} (hF : ∀ g, F g → F' g) (hw : ∀ g, F g → w'.heap[g]? = w.heap[g]?) {k : IntKind} {v : Ty} {es : List (Unit × Int × v.den)} {seen : List Nat} {u : Value} (h : IterR base F w k v es seen u) (hb : ∀ g, blk u = some g → w'.heap[g]? = w.heap[g]? ∧ (¬ F g → ¬ F' g)) : IterR base F' w' k v es seen u := by
  obtain ⟨gi, g, arr, h1, h2, h3, h4, h5, h6, h7, h8⟩ := h
  have hg := hb gi (by rw [h1]; rfl)
  exact ⟨gi, g, arr, h1, h2, hg.2 h3, hg.1.trans h4, hF _ h5, (hw _ h5).trans h6, h7.mono hF hw, h8⟩
theorem RepF.mono (hF : ∀ g, F g → F' g) (hw : ∀ g, F g → w'.heap[g]? = w.heap[g]?) {t : Ty} {x : t.den} {off : Nat} {v : Value} : RepF F w t x off v → RepF F' w' t x off v
  | ⟨g, o, cells, a, b, c, d⟩ => ⟨g, o, cells, a, hF _ b, c.mono hF hw, range_of_block (hw g b) d⟩
/-- A slot as before, or gone. -/
def Like : Slot → Slot → Prop
  | _, .dead => True
  | .row lv _ t xs, .row lv' _ t' xs' => ∃ h : t = t', (t.isMp = false → xs'.length = xs.length) ∧ (lv' = true → lv = true)
  | .box .., .box .. => True
  | .iter k v .., .iter k' v' .. => True
  | _, _ => False
structure Keeps (F F' : Nat → Prop) (w w' : World) (β β' : Bd) (H H' : Heap) : Prop where
  f : ∀ g, F g → F' g
  w : ∀ g, F g → w'.heap[g]? = w.heap[g]?
  b : ∀ h u, β h = some u → β' h = some u
  h : ∀ (h : Nat) (s : Slot), H[h]? = some s → ∃ s', H'[h]? = some s' ∧ Like s s'
theorem RepPtr.one {h i off : Nat} {v : Value} (r : RepPtr β H h i off v) : v.oneCell' = true := by
  unfold RepPtr at r
  split at r
  · exact r.elim
  · exact r
  · obtain ⟨_, g, o, n, c, _, rfl⟩ := r; rfl
  · obtain ⟨_, g, _, rfl⟩ := r; rfl
  · exact r.elim
theorem RepF.one {t : Ty} {x : t.den} {off : Nat} {v : Value} (r : RepF F w t x off v) : v.oneCell' = true := by
  obtain ⟨g, o, cells, rfl, _⟩ := r; rfl
theorem RepV.one : ∀ {c : CV} {v : Value}, RepV F w β H c v → v.oneCell' = true
  | .undef, _, h => h
  | .nils, _, h => by rw [show _ = _ from h]; rfl
  | .int .., _, h => by rw [show _ = _ from h]; rfl
  | .bool _, _, h => by rw [show _ = _ from h]; rfl
  | .str _, _, h => by rw [show _ = _ from h]; rfl
  | .vsl t xs, v, h => RepC.one (t := .sl t) h v (by simp)
  | .own .., _, h => h.elim
  | .ptr .., _, h => RepPtr.one h
  | .fptr .., _, h => RepF.one h
  | .fn .., _, ⟨_, _, h, _⟩ => by rw [h]; rfl
  | .sub h o l, v, r => by
    simp only [RepV] at r
    split at r
    · exact r.elim
    · exact r
    · obtain ⟨_, A, c, rfl, _⟩ := r; rfl
    · exact r.elim
    · exact r.elim
  | .ref h, v, r => by
    simp only [RepV] at r
    split at r
    · exact r.elim
    · exact r
    · exact r.2
    · exact r.elim
    · exact r.2
theorem RepPtr.mono (k : Keeps F F' w w' β β' H H') {h i off : Nat} {v : Value} (r : RepPtr β H h i off v) : RepPtr β' H' h i off v := by
  have one := r.one
  unfold RepPtr at r ⊢
  split at r
  · exact r.elim
  · rename_i hs
    obtain ⟨s', h1, h2⟩ := k.h _ _ hs
    rw [h1]
    cases s' with
    | dead => exact r
    | row => exact h2.elim
    | box => exact h2.elim
    | iter => exact h2.elim
  · rename_i hs
    obtain ⟨s', h1, h2⟩ := k.h _ _ hs
    rw [h1]
    cases s' with
    | dead => exact one
    | row =>
      obtain ⟨ht, hl⟩ := h2
      subst ht
      obtain ⟨hi, g, o, n, c, hb, hv⟩ := r
      exact ⟨⟨hi.1, by rw [hl.1 hi.1]; exact hi.2⟩, g, o, n, c, k.b _ _ hb, hv⟩
    | box => exact h2.elim
    | iter => exact h2.elim
  · rename_i hs
    obtain ⟨s', h1, h2⟩ := k.h _ _ hs
    rw [h1]
    cases s' with
    | dead => exact one
    | row => exact h2.elim
    | box =>
      obtain ⟨hi, g, hb, hv⟩ := r
      exact ⟨hi, g, k.b _ _ hb, hv⟩
    | iter => exact h2.elim
  · exact r.elim
theorem RepP.mono (k : Keeps F F' w w' β β' H H') : ∀ {p : PV} {v : Value}, RepP F w β H p v → RepP F' w' β' H' p v
  | .val .., _, h => RepC.mono k.f k.w h
  | .agg .., _, ⟨vs, e, h⟩ => ⟨vs, e, RepC.mono k.f k.w h⟩
  | .fptr .., _, h => RepF.mono k.f k.w h
  | .ptr .., _, h => RepPtr.mono k h
theorem RepV.mono (k : Keeps F F' w w' β β' H H') : ∀ {c : CV} {v : Value}, RepV F w β H c v → RepV F' w' β' H' c v
  | .undef, _, h => h
  | .nils, _, h => h
  | .int .., _, h => h
  | .bool _, _, h => h
  | .str _, _, h => h
  | .vsl t xs, v, h => RepC.mono (t := .sl t) k.f k.w h
  | .own .., _, h => h.elim
  | .ptr .., _, h => RepPtr.mono k h
  | .fptr .., _, h => RepF.mono k.f k.w h
  | .fn .., _, ⟨va, vb, h, ha, hb⟩ => ⟨va, vb, h, ha.mono fun _ _ => RepP.mono k, hb.mono fun _ _ => RepP.mono k⟩
  | .ref h, v, r => by
    have one := r.one
    simp only [RepV] at r ⊢
    split at r
    · exact r.elim
    · rename_i hs
      obtain ⟨s', h1, h2⟩ := k.h _ _ hs
      rw [h1]
      cases s' with
      | dead => exact r
      | row => exact h2.elim
      | box => exact h2.elim
      | iter => exact h2.elim
    · rename_i hs
      obtain ⟨s', h1, h2⟩ := k.h _ _ hs
      rw [h1]
      cases s' with
      | dead => exact one
      | row => exact ⟨k.b _ _ r.1, one⟩
      | box => exact h2.elim
      | iter => exact h2.elim
    · exact r.elim
    · rename_i hs
      obtain ⟨s', h1, h2⟩ := k.h _ _ hs
      rw [h1]
      cases s' with
      | dead => exact one
      | row => exact h2.elim
      | box => exact h2.elim
      | iter => exact ⟨k.b _ _ r.1, one⟩
  | .sub h o l, v, r => by
    have one := r.one
    simp only [RepV] at r ⊢
    split at r
    · exact r.elim
    · rename_i hs
      obtain ⟨s', h1, h2⟩ := k.h _ _ hs
      rw [h1]
      cases s' with
      | dead => exact r
      | row => exact h2.elim
      | box => exact h2.elim
      | iter => exact h2.elim
    · rename_i hs
      obtain ⟨s', h1, h2⟩ := k.h _ _ hs
      rw [h1]
      cases s' with
      | dead => exact one
      | row =>
        obtain ⟨ht, hl⟩ := h2
        subst ht
        obtain ⟨hi, A, c, hv, hc, hb, hcap⟩ := r
        exact ⟨⟨hi.1, by rw [hl.1 hi.1]; exact hi.2⟩, A, c, hv, hc, hb.imp id fun ⟨g, p, n, q, e1, e2⟩ => ⟨g, p, n, q, k.b _ _ e1, e2⟩, fun e => (hcap (hl.2 e)).imp id fun ⟨g, p, q, n, kk, e1, e2⟩ => ⟨g, p, q, n, kk, k.b _ _ e1, e2⟩⟩
      | box => exact h2.elim
      | iter => exact h2.elim
    · exact r.elim
    · exact r.elim
theorem RepA.mono (k : Keeps F F' w w' β β' H H') : ∀ {c : AV} {v : Value}, RepA F w β H c v → RepA F' w' β' H' c v
  | .undef, _, h => h
  | .one _, _, h => RepV.mono k h
  | .agg _, _, ⟨vs, h, h2⟩ => ⟨vs, h, h2.mono fun _ _ => RepV.mono k⟩
  | .tup _, _, ⟨vs, h, h2⟩ => ⟨vs, h, h2.mono fun u v => by
      rcases u with ⟨b, cs⟩
      cases b with
      | true => exact fun ⟨ws, e, r⟩ => ⟨ws, e, r.mono fun _ _ => RepV.mono k⟩
      | false => exact fun ⟨c, e, r⟩ => ⟨c, e, RepV.mono k r⟩⟩

/-! ### Values and their cells -/
theorem rep_flat : ∀ {t : Ty} {x : t.den} {cs : List Value}, RepC F w t x cs → All2 (RepV F w β H) (flat t x) cs
  | .int _, _, _, h => by rw [show _ = _ from h]; exact .cons rfl .nil
  | .bool, _, _, h => by rw [show _ = _ from h]; exact .cons rfl .nil
  | .str, _, _, h => by rw [show _ = _ from h]; exact .cons rfl .nil
  | .sl t, xs, cs, h => by
    obtain ⟨A, cap, h1, h2⟩ := h
    subst h1
    exact .cons (show RepC F w (.sl t) xs _ from ⟨A, cap, rfl, h2⟩) .nil
  | .pair a b, p, _, ⟨c1, c2, h1, h2, h3⟩ => by rw [h1]; exact (rep_flat h2).append (rep_flat h3)
  | .unit, _, _, h => by rw [show _ = _ from h]; exact .nil
  | .opq, _, _, h => h.elim
theorem rep_unflat : ∀ {t : Ty} {us : List CV} {x : t.den} {r : List CV} {vs : List Value}, unflat t us = some (x, r) → All2 (RepV F w β H) us vs → ∃ v1 v2, vs = v1 ++ v2 ∧ RepC F w t x v1 ∧ All2 (RepV F w β H) r v2
  | .int k, us, x, r, vs, h, a => by
    cases a with
    | nil => simp [unflat] at h
    | @cons c v _ m hr ht =>
      cases c <;> simp [unflat] at h
      obtain ⟨rfl, rfl, rfl⟩ := h
      exact ⟨[v], m, rfl, by rw [show v = _ from hr]; rfl, ht⟩
  | .bool, us, x, r, vs, h, a => by
    cases a with
    | nil => simp [unflat] at h
    | @cons c v _ m hr ht =>
      cases c <;> simp [unflat] at h
      obtain ⟨rfl, rfl⟩ := h
      exact ⟨[v], m, rfl, by rw [show v = _ from hr]; rfl, ht⟩
  | .str, us, x, r, vs, h, a => by
    cases a with
    | nil => simp [unflat] at h
    | @cons c v _ m hr ht =>
      cases c <;> simp [unflat] at h
      obtain ⟨rfl, rfl⟩ := h
      exact ⟨[v], m, rfl, by rw [show v = _ from hr]; rfl, ht⟩
  | .sl t, us, x, r, vs, h, a => by
    cases a with
    | nil => simp [unflat] at h
    | @cons c v _ m hr ht =>
      cases c <;> simp only [unflat, reduceCtorEq] at h
      split at h
      · rename_i he
        subst he
        simp at h
        obtain ⟨rfl, rfl⟩ := h
        exact ⟨[v], m, rfl, hr, ht⟩
      · simp at h
  | .pair p q, us, x, r, vs, h, a => by
    simp only [unflat, Option.bind_eq_some_iff] at h
    obtain ⟨y, h1, z, h2, h3⟩ := h
    simp at h3
    obtain ⟨rfl, rfl⟩ := h3
    obtain ⟨v1, v2, rfl, r1, r2⟩ := rep_unflat (x := y.1) (r := y.2) h1 a
    obtain ⟨v3, v4, rfl, r3, r4⟩ := rep_unflat (x := z.1) (r := z.2) h2 r2
    exact ⟨v1 ++ v3, v4, by simp, ⟨v1, v3, rfl, r1, r3⟩, r4⟩
  | .unit, us, x, r, vs, h, a => by
    simp [unflat] at h
    subst h
    exact ⟨[], vs, rfl, rfl, a⟩
  | .opq, us, x, r, vs, h, a => by simp [unflat] at h
theorem rep_unflat1 {t : Ty} {us : List CV} {x : t.den} {vs : List Value} (h : unflat1 t us = some x) (a : All2 (RepV F w β H) us vs) : RepC F w t x vs := by
  simp only [unflat1, Option.bind_eq_some_iff] at h
  obtain ⟨p, h1, h2⟩ := h
  obtain ⟨v1, v2, rfl, r1, r2⟩ := rep_unflat (x := p.1) (r := p.2) h1 a
  split at h2
  · rename_i hp
    rw [hp] at r2
    cases r2
    simp at h2
    subst h2
    simpa using r1
  · simp at h2
/-! ### Rows -/
theorem RowC.get {α : Type} {R : α → List Value → Prop} {n : Nat} {xs : List α} {cells : List Value} (k : RowC R n xs cells) {i : Nat} {x : α} (h : xs[i]? = some x) : R x ((cells.drop (i * n)).take n) := k.2 i x h
theorem RowC.append {α : Type} {R : α → List Value → Prop} {n : Nat} {xs ys : List α} {c d : List Value} (k : RowC R n xs c) (l : RowC R n ys d) : RowC R n (xs ++ ys) (c ++ d) := by
  refine ⟨by rw [List.length_append, List.length_append, k.1, l.1, Nat.add_mul], fun i x h => ?_⟩
  by_cases hi : i < xs.length
  · rw [List.getElem?_append_left hi] at h
    have h1 := k.2 i x h
    have hle : i * n + n ≤ c.length := by rw [k.1]; have := Nat.mul_le_mul_right n (show i + 1 ≤ xs.length from hi); rw [Nat.add_mul] at this; omega
    rw [List.drop_append_of_le_length (by omega), List.take_append_of_le_length (by rw [List.length_drop]; omega)]
    exact h1
  · rw [List.getElem?_append_right (by omega)] at h
    have h1 := l.2 _ x h
    have e : (c ++ d).drop (i * n) = d.drop ((i - xs.length) * n) := by
      have h2 : i * n = c.length + (i - xs.length) * n := by rw [k.1, ← Nat.add_mul]; congr 1; omega
      rw [h2, List.drop_append, List.drop_of_length_le (by omega)]
      simp
    rw [e]
    exact h1
theorem RowC.sub {α : Type} {R : α → List Value → Prop} {n : Nat} {xs : List α} {c : List Value} (k : RowC R n xs c) (o l : Nat) : RowC R n ((xs.drop o).take l) ((c.drop (o * n)).take (l * n)) := by
  refine ⟨?_, fun i x h => ?_⟩
  · rw [List.length_take, List.length_take, List.length_drop, List.length_drop, k.1, ← Nat.sub_mul]
    rcases Nat.le_total l (xs.length - o) with h | h
    · rw [Nat.min_eq_left h, Nat.min_eq_left (Nat.mul_le_mul_right n h)]
    · rw [Nat.min_eq_right h, Nat.min_eq_right (Nat.mul_le_mul_right n h)]
  · have hi : i < l := by
      have := (List.getElem?_eq_some_iff.1 h).1
      rw [List.length_take] at this
      omega
    rw [List.getElem?_take_of_lt hi, List.getElem?_drop] at h
    have h1 := k.2 _ x h
    have e : (((c.drop (o * n)).take (l * n)).drop (i * n)).take n = (c.drop ((o + i) * n)).take n := by
      have h2 : i * n + n ≤ l * n := by have := Nat.mul_le_mul_right n (show i + 1 ≤ l from hi); rw [Nat.add_mul] at this; omega
      rw [List.drop_take, List.take_take, List.drop_drop, Nat.min_eq_left (by omega), Nat.add_mul]
    rw [e]
    exact h1
theorem RowC.set {α : Type} {R : α → List Value → Prop} {n : Nat} {xs : List α} {c : List Value} (k : RowC R n xs c) {i : Nat} {y : α} {d : List Value} (hi : i < xs.length) (hd : d.length = n) (r : R y d) :
    RowC R n (xs.set i y) (c.take (i * n) ++ d ++ c.drop (i * n + n)) := by
  have hle : i * n + n ≤ c.length := by rw [k.1]; have := Nat.mul_le_mul_right n (show i + 1 ≤ xs.length from hi); rw [Nat.add_mul] at this; omega
  refine ⟨by rw [List.length_append, List.length_append, List.length_take, List.length_drop, hd, List.length_set, Nat.min_eq_left (by omega)]; have := k.1; omega, fun j x h => ?_⟩
  by_cases hj : j = i
  · subst hj
    rw [List.getElem?_set_self hi] at h
    simp at h
    subst h
    rw [List.append_assoc, List.drop_append, List.length_take, Nat.min_eq_left (by omega), Nat.sub_self, List.drop_of_length_le (by rw [List.length_take]; omega)]
    simp [hd]
    exact r
  · rw [List.getElem?_set_ne (by omega)] at h
    have h1 := k.2 j x h
    have hjl : j < xs.length := (List.getElem?_eq_some_iff.1 h).1
    have e : ((c.take (i * n) ++ d ++ c.drop (i * n + n)).drop (j * n)).take n = (c.drop (j * n)).take n := by
      rcases Nat.lt_or_gt_of_ne hj with hlt | hlt
      · have h2 : j * n + n ≤ i * n := by have := Nat.mul_le_mul_right n (show j + 1 ≤ i from hlt); rw [Nat.add_mul] at this; omega
        rw [List.append_assoc, List.drop_append_of_le_length (by rw [List.length_take]; omega), List.take_append_of_le_length (by rw [List.length_drop, List.length_take]; omega), List.drop_take, List.take_take, Nat.min_eq_left (by omega)]
      · have h2 : i * n + n ≤ j * n := by have := Nat.mul_le_mul_right n (show i + 1 ≤ j from hlt); rw [Nat.add_mul] at this; omega
        rw [List.drop_append, List.drop_of_length_le (by simp; omega), List.nil_append, List.drop_drop]
        congr 2
        simp; omega
    rw [e]
    exact h1
end
end Go.Proofs.Ytanpdkllnmeenaa.Am

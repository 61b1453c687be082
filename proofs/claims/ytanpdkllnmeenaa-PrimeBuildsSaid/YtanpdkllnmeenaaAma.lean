/- A machine over values: functions told by lists and numbers, without a memory; slices that a function makes itself are rows of its own. -/
import Derived.Orders
import Derived.Tactics
import Derived.Below
import Derived.Deep.MidRow
import Derived.Laws.AppendOwn
import Derived.Laws.OwnMore
import Derived.Deep.AppendLies
import Derived.Laws.MakeOwn
import Derived.Laws.Tables
import Derived.Laws.Entries
import Derived.Laws.Slices
import Derived.Great.BuildSlice
import Derived.ChangeKeysEq
import Derived.WalkKit
import Derived.Laws.Small
import Derived.Laws.StructEq
namespace Go.Proofs.Ytanpdkllnmeenaa.Am
open Go
set_option linter.unusedVariables false

inductive Ty where
  | int (k : IntKind) | bool | str | sl (t : Ty) | pair (a b : Ty) | unit | opq
  deriving DecidableEq, Inhabited
@[reducible] def Ty.den : Ty → Type
  | .int _ => Int | .bool => Bool | .str => ByteArray | .sl t => List t.den | .pair a b => a.den × b.den | .unit => Unit | .opq => Unit
def Ty.size : Ty → Nat
  | .pair a b => a.size + b.size | .unit => 0 | _ => 1
def Ty.isAgg : Ty → Bool
  | .pair .. | .unit => true | _ => false
/-- What a map holds: a key and what it has; the unit marks it. -/
abbrev Ty.mpe (k : IntKind) (v : Ty) : Ty := .pair .unit (.pair (.int k) v)
def Ty.isMp : Ty → Bool
  | .pair .unit _ => true | _ => false
/-- No slice stands in it. -/
def Ty.plain : Ty → Bool
  | .sl _ | .opq => false | .pair a b => a.plain && b.plain | _ => true
def Ty.dflt : (t : Ty) → t.den
  | .int _ => (0 : Int) | .bool => false | .str => ByteArray.empty | .sl _ => [] | .pair a b => (a.dflt, b.dflt) | .unit => () | .opq => ()

/-- What a closure holds. -/
inductive PV where
  | val (t : Ty) (x : t.den) | agg (t : Ty) (x : t.den) | fptr (t : Ty) (x : t.den) (off : Nat) | ptr (h i off : Nat)
inductive CV where
  | undef | nils
  | int (k : IntKind) (n : Int) | bool (b : Bool) | str (s : ByteArray)
  | vsl (t : Ty) (xs : List t.den)
  | own (e : TypeId) (t : Ty) (xs : List t.den)
  | ref (h : Nat) | sub (h off len : Nat)
  | ptr (h i off : Nat) | fptr (t : Ty) (x : t.den) (off : Nat)
  | fn (f : FuncId) (first caps : List PV)
  deriving Inhabited
inductive AV where
  | undef | one (c : CV) | agg (cs : List CV) | tup (vs : List (Bool × List CV))
  deriving Inhabited
inductive Slot where
  | dead | row (live : Bool) (e : TypeId) (t : Ty) (xs : List t.den) | box (t : Ty) (cs : List CV)
  | iter (k : IntKind) (v : Ty) (es : List (Unit × Int × v.den)) (seen : List Nat)
  deriving Inhabited
abbrev Heap := List Slot

def flat : (t : Ty) → t.den → List CV
  | .int k, n => [.int k n]
  | .bool, b => [.bool b]
  | .str, s => [.str s]
  | .sl t, xs => [.vsl t xs]
  | .pair a b, p => flat a p.1 ++ flat b p.2
  | .unit, _ => []
  | .opq, _ => [.undef]
/-- The first cells as a value of the type, and the rest. -/
def unflat : (t : Ty) → List CV → Option (t.den × List CV)
  | .int k, .int k' n :: r => if k' = k then some (n, r) else none
  | .bool, .bool b :: r => some (b, r)
  | .str, .str s :: r => some (s, r)
  | .sl t, .vsl t' xs :: r => if h : t' = t then some (h ▸ xs, r) else none
  | .pair a b, cs => (unflat a cs).bind fun p => (unflat b p.2).bind fun q => some ((p.1, q.1), q.2)
  | .unit, cs => some ((), cs)
  | _, _ => none
def unflat1 (t : Ty) (cs : List CV) : Option t.den := (unflat t cs).bind fun p => match p.2 with | [] => some p.1 | _ => none

/-- The cells that a type begins with. -/
def zeroC : Ty → List CV
  | .int k => [.int k 0] | .bool => [.bool false] | .str => [.str ByteArray.empty] | .sl t => match t.isMp with | true => [.undef] | false => [.nils]
  | .pair a b => zeroC a ++ zeroC b | .unit => [] | .opq => [.undef]
/-- Each nil slice gets a row of its own. -/
def fixC (el : Ty → TypeId) : Ty → List CV → Nat → List CV × List Slot × List CV
  | .sl t, .nils :: r, n => match t.isMp with | true => ([.undef], [], r) | false => ([.ref n], [.row true (el t) t []], r)
  | .pair a b, cs, n =>
    let p := fixC el a cs n
    let q := fixC el b p.2.2 (n + p.2.1.length)
    (p.1 ++ q.1, p.2.1 ++ q.2.1, q.2.2)
  | .unit, cs, _ => ([], [], cs)
  | _, c :: r, _ => ([c], [], r)
  | _, [], _ => ([], [], [])
def constC : Value → Option CV
  | .int k n => some (.int k n) | .bool b => some (.bool b) | .string s => some (.str s) | .slice none 0 0 => some .nils
  | .func (.func f) first captured => if first.isEmpty && captured.isEmpty then some (.fn f [] []) else none
  | .nilFunc => some .undef | .pointer none => some .undef | .nilIface => some .undef
  | _ => none
def constA : Value → Option AV
  | .agg cs => (cs.toList.mapM constC).map .agg
  | v => (constC v).map .one
def AV.cells : AV → Option (List CV)
  | .one c => some [c] | .agg cs => some cs | _ => none
def mkAV (agg : Bool) (cs : List CV) : Option AV := if agg then some (.agg cs) else match cs with | [c] => some (.one c) | _ => none

structure Fld where
  off : Nat
  size : Nat
  agg : Bool
/-- What is told of a loop: what lives at its head, behind it, and where it hands back; and which slices stay as they are from then on. -/
structure LH where
  head : List Nat
  exit : List Nat
  ret : List Nat
  zhead : List (Nat × Nat) := []
  zexit : List (Nat × Nat) := []
  zret : List (Nat × Nat) := []
  deriving Inhabited
structure Ctx where
  ty : TypeId → Option Ty
  el : Ty → TypeId
  fld : TypeId → Nat → Option Fld
  hint : FuncId → Nat → LH
  shares : FuncId → Bool
  lends : FuncId → List Nat
  lendc : FuncId → Bool
  pty : FuncId → Nat → Option Ty
  eqs : TypeId → Option (List Ty)
  nxt : Bool := false
  nd : FuncId → Option (AV → Option AV) := fun _ => none
  arr : TypeId → Option (Nat × Ty) := fun _ => none
  nils : FuncId → Bool := fun _ => false
def slotAt (H : Heap) (h : Nat) : Slot := H.getD h .dead
def envAt (env : List AV) (t : Nat) : AV := env.getD t .undef
/-- An operand, as it stands. -/
def opr (env : List AV) : Operand → Option AV
  | .tmp t => match envAt env t with | .undef => none | v => some v
  | .const v => constA v
  | .func f => some (.one (.fn f [] []))
  | .global _ => none
def isConst : Operand → Bool
  | .const _ => true | _ => false
/-- An operand of a type: nil slices get rows. -/
def opd (C : Ctx) (env : List AV) (n : Nat) (t : TypeId) (x : Operand) : Option (AV × List Slot) :=
  match isConst x with
  | false => (opr env x).map fun v => (v, [])
  | true => (opr env x).bind fun v => v.cells.bind fun cs =>
    match C.ty t with
    | none => some (v, [])
    | some ty => match fixC C.el ty cs n with
      | (cs', sl, []) => match v with | .agg _ => some (.agg cs', sl) | _ => (mkAV false cs').map fun v' => (v', sl)
      | _ => none
def cell1 : AV → Option CV
  | .one c => some c | _ => none
def oprC (env : List AV) (x : Operand) : Option CV := (opr env x).bind cell1
def intOf : CV → Option (IntKind × Int)
  | .int k n => some (k, n) | _ => none
def setAt (cs : List CV) (off : Nat) : List CV → List CV
  | [] => cs
  | c :: r => setAt (cs.set off c) (off + 1) r
def PV.cv : PV → Option CV
  | .val t x => match flat t x with | [c] => some c | _ => none
  | .fptr t x o => some (.fptr t x o)
  | .ptr h i o => some (.ptr h i o)
  | .agg .. => none
def PV.av : PV → Option AV
  | .agg t x => some (.agg (flat t x))
  | q => q.cv.map .one
def CV.pv : CV → Option PV
  | .int k n => some (.val (.int k) n) | .bool b => some (.val .bool b) | .str s => some (.val .str s) | .vsl t xs => some (.val (.sl t) xs)
  | .ptr h i o => some (.ptr h i o) | .fptr t x o => some (.fptr t x o) | _ => none
def AV.pv (T : Option Ty) : AV → Option PV
  | .one c => c.pv
  | .agg cs => T.bind fun t => (unflat1 t cs).map (.agg t)
  | _ => none
def pvs (T : Nat → Option Ty) : Nat → List (Option AV) → Option (List PV)
  | _, [] => some []
  | i, v :: r => (v.bind (AV.pv (T i))).bind fun p => (pvs T (i + 1) r).map fun q => p :: q
/-- A slice as a list. -/
def rowOf (H : Heap) : CV → Option ((t : Ty) × List t.den)
  | .vsl t xs => some ⟨t, xs⟩
  | .ref h => match slotAt H h with | .row _ _ t xs => some ⟨t, xs⟩ | _ => none
  | .sub h o l => match slotAt H h with | .row _ _ t xs => some ⟨t, (xs.drop o).take l⟩ | _ => none
  | _ => none
def pure1 (H : Heap) : CV → Option CV
  | .ref h => match slotAt H h with | .row _ _ t xs => some (.vsl t xs) | _ => none
  | .sub h o l => match slotAt H h with | .row _ _ t xs => some (.vsl t ((xs.drop o).take l)) | _ => none
  | .own .. | .ptr .. | .fn .. | .undef => none
  | c => some c
def pureP (H : Heap) : PV → Option PV
  | .ptr h i off => match slotAt H h with
    | .box t cs => (cs.mapM (pure1 H)).bind fun cs' => (unflat1 t cs').bind fun x => if i = 0 then some (.fptr t x off) else none
    | _ => none
  | p => some p
/-- A cell as it is handed to a function: all that is one's own is told as a list. -/
def pureC (H : Heap) : CV → Option CV
  | .ptr h i off => match slotAt H h with
    | .box t cs => (cs.mapM (pure1 H)).bind fun cs' => (unflat1 t cs').bind fun x => if i = 0 then some (.fptr t x off) else none
    | _ => none
  | .fn f a b => (a.mapM (pureP H)).bind fun a' => (b.mapM (pureP H)).bind fun b' => some (.fn f a' b')
  | c => pure1 H c
def pureA (H : Heap) : AV → Option AV
  | .one c => (pureC H c).map .one
  | .agg cs => (cs.mapM (pure1 H)).map .agg
  | _ => none
/-- The handles that a cell tells of. -/
def hsP : PV → List Nat
  | .ptr h _ _ => [h] | _ => []
def hsC : CV → List Nat
  | .ref h | .sub h _ _ | .ptr h _ _ => [h] | .fn _ a b => a.flatMap hsP ++ b.flatMap hsP | _ => []
def hsA : AV → List Nat
  | .one c => hsC c | .agg cs => cs.flatMap hsC | .tup vs => vs.flatMap fun p => p.2.flatMap hsC | .undef => []
/-- May a cell of a result share with what was handed in? -/
def alias1 : CV → Bool
  | .vsl .. | .fptr .. | .fn .. => true | .own _ t _ => !t.plain | _ => false
def aliasA : AV → Bool
  | .one c => alias1 c | .agg cs => cs.any alias1 | .tup vs => vs.any fun p => p.2.any alias1 | .undef => false
def adopt1 (c : CV) (n : Nat) : CV × List Slot :=
  match c with
  | .own e t xs => (.ref n, [.row true e t xs])
  | c => (c, [])
def adoptL : List CV → Nat → List CV × List Slot
  | [], _ => ([], [])
  | c :: r, n => let p := adopt1 c n; let q := adoptL r (n + p.2.length); (p.1 :: q.1, p.2 ++ q.2)
def adoptT : List (Bool × List CV) → Nat → List (Bool × List CV) × List Slot
  | [], _ => ([], [])
  | c :: r, n => let p := adoptL c.2 n; let q := adoptT r (n + p.2.length); ((c.1, p.1) :: q.1, p.2 ++ q.2)
def adoptA : AV → Nat → AV × List Slot
  | .one c, n => let p := adopt1 c n; (.one p.1, p.2)
  | .agg cs, n => let p := adoptL cs n; (.agg p.1, p.2)
  | .tup vs, n => let p := adoptT vs n; (.tup p.1, p.2)
  | .undef, _ => (.undef, [])

def binQ (op : BinOp) (a b : CV) : Option (Bool × CV) :=
  match op, a, b with
  | .shl, .int k x, .int _ y => some (decide (0 ≤ y), .int k (k.wrap (x * 2 ^ (min y.toNat k.bits))))
  | .shr, .int k x, .int _ y => some (decide (0 ≤ y), .int k (x.fdiv (2 ^ (min y.toNat k.bits))))
  | _, .int k x, .int k' y =>
    if k' = k then match op with
      | .add => some (true, .int k (k.wrap (x + y)))
      | .sub => some (true, .int k (k.wrap (x - y)))
      | .mul => some (true, .int k (k.wrap (x * y)))
      | .quo => some (y != 0, .int k (k.wrap (x.tdiv y)))
      | .rem => some (y != 0, .int k (x.tmod y))
      | .and => some (true, .int k (k.wrap (BitVec.ofInt k.bits x &&& BitVec.ofInt k.bits y).toNat))
      | .or => some (true, .int k (k.wrap (BitVec.ofInt k.bits x ||| BitVec.ofInt k.bits y).toNat))
      | .xor => some (true, .int k (k.wrap (BitVec.ofInt k.bits x ^^^ BitVec.ofInt k.bits y).toNat))
      | .eql => some (true, .bool (x == y))
      | .neq => some (true, .bool (x != y))
      | .lss => some (true, .bool (decide (x < y)))
      | .leq => some (true, .bool (decide (x ≤ y)))
      | .gtr => some (true, .bool (decide (x > y)))
      | .geq => some (true, .bool (decide (x ≥ y)))
      | _ => none
    else none
  | _, _, _ => none
/-- Comparisons of bools and strings. -/
def binT (T : Option Ty) (op : BinOp) (a b : CV) : Option CV :=
  match T, op, a, b with
  | some .bool, .eql, .bool x, .bool y => some (.bool (x == y))
  | some .bool, .neq, .bool x, .bool y => some (.bool (!(x == y)))
  | some .str, .eql, .str x, .str y => some (.bool (x.toList == y.toList))
  | some .str, .neq, .str x, .str y => some (.bool (!(x.toList == y.toList)))
  | _, _, _, _ => none
/-- Two structs of plain cells. -/
def eqCs : List Ty → List CV → List CV → Option Bool
  | [], [], [] => some true
  | .int _ :: T, .int k a :: r, .int k' b :: s => if k' = k then (eqCs T r s).map fun q => (a == b && q) else none
  | .bool :: T, .bool a :: r, .bool b :: s => (eqCs T r s).map fun q => (a == b && q)
  | .str :: T, .str a :: r, .str b :: s => (eqCs T r s).map fun q => (a.toList == b.toList && q)
  | _, _, _ => none
def eqS (T : List Ty) (op : BinOp) (u v : AV) : Option CV := match u, v with
  | .agg cs, .agg ds => (match op with
    | .eql => (eqCs T cs ds).map .bool
    | .neq => (eqCs T cs ds).map fun q => .bool (!q)
    | _ => none)
  | _, _ => none
def unQ (op : UnOp) (a : CV) : Option CV :=
  match op, a with
  | .not, .bool b => some (.bool (!b))
  | .neg, .int k n => some (.int k (k.wrap (0 - n)))
  | _, _ => none
/-- The greater, or the lesser one. -/
def mmQ (g : Bool) (a b : CV) : Option CV :=
  match a, b with
  | .int k x, .int k' y => if k' = k then some (.int k (if g then max x y else min x y)) else none
  | _, _ => none
def cutC (cs : List CV) (off size : Nat) : Option (List CV) := if off + size ≤ cs.length then some ((cs.drop off).take size) else none
def readP (H : Heap) (size : Nat) : CV → Option (List CV)
  | .ptr h i off => match slotAt H h with
    | .box _ cs => cutC cs off size
    | .row _ _ t xs => match t.isMp with | true => none | false => cutC (flat t (xs.getD i t.dflt)) off size
    | _ => none
  | .fptr t x off => cutC (flat t x) off size
  | _ => none
def lenOf (T : Ty) (H : Heap) (c : CV) : Option Int :=
  match T, c with
  | .str, .str s => some (s.size : Int)
  | .sl t, .sub h _ l => match slotAt H h with | .row .. => (match t.isMp with | true => none | false => some (l : Int)) | _ => none
  | .sl t, c => (rowOf H c).bind fun r => match t.isMp with | true => none | false => match r.1.isMp with | true => none | false => some (r.2.length : Int)
  | _, _ => none
def asRef : CV → Option Nat
  | .ref h => some h | _ => none
theorem asRef_ok {c : CV} {h : Nat} (e : asRef c = some h) : c = .ref h := by
  cases c <;> simp [asRef] at e
  rw [e]
def foldB (H : Heap) (C : Ctx) (t : TypeId) (env : List AV) : List (Nat × Operand) → List CV → Option (List CV)
  | [], cs => some cs
  | (i, x) :: r, cs => (C.fld t i).bind fun f => (opr env x).bind fun v => v.cells.bind fun us =>
    if us.length = f.size ∧ f.off + f.size ≤ cs.length then foldB H C t env r (setAt cs f.off us) else none
def foldS (H : Heap) (e : Ty) (env : List AV) : List (Nat × Operand) → List e.den → Option (List e.den)
  | [], xs => some xs
  | (i, x) :: r, xs => (opr env x).bind fun v => v.cells.bind fun us => (unflat1 e us).bind fun y =>
    if i < xs.length then foldS H e env r (xs.set i y) else none
def bndQ (env : List AV) : Option Operand → Option (Option Int)
  | none => some none
  | some a => ((oprC env a).bind intOf).map fun (p : IntKind × Int) => some p.2
/-- A field behind a pointer. -/
def fldP (H : Heap) (off : Nat) : CV → Option CV
  | .ptr h i o => match slotAt H h with | .dead => none | _ => some (.ptr h i (o + off))
  | .fptr t x o => some (.fptr t x (o + off))
  | _ => none
def nilP (H : Heap) : CV → Option CV
  | .ptr h i o => match slotAt H h with | .dead => none | _ => some (.ptr h i o)
  | .fptr t x o => some (.fptr t x o)
  | _ => none
def chkS (lo hi : Option Int) (n : Nat) : Bool :=
  match lo, hi with
  | none, none => true | some l, none => decide (0 ≤ l) && decide (l ≤ (n : Int)) | none, some h => decide (0 ≤ h) && decide (h ≤ (n : Int))
  | some l, some h => decide (0 ≤ l) && (decide (l ≤ h) && decide (h ≤ (n : Int)))
def cutS {α : Type} (lo hi : Option Int) (xs : List α) : List α :=
  match lo, hi with
  | none, none => xs | some l, none => xs.drop l.toNat | none, some h => xs.take h.toNat | some l, some h => (xs.take h.toNat).drop l.toNat
def sliceQ (T : Ty) (H : Heap) (lo hi : Option Int) (c : CV) : Option (Bool × CV) :=
  match c with
  | .vsl t xs => if T = .sl t ∧ t.isMp = false then some (chkS lo hi xs.length, .vsl t (cutS lo hi xs)) else none
  | .ref h => match slotAt H h with
    | .row _ _ t xs => if T = .sl t ∧ t.isMp = false then some (chkS lo hi xs.length, .sub h ((lo.getD 0).toNat) ((hi.getD xs.length).toNat - (lo.getD 0).toNat)) else none
    | _ => none
  | .sub h o l => match slotAt H h with
    | .row _ _ t xs => if T = .sl t ∧ t.isMp = false then some (chkS lo hi l, .sub h (o + (lo.getD 0).toNat) ((hi.getD l).toNat - (lo.getD 0).toNat)) else none
    | _ => none
  | _ => none
def byteAt (s : ByteArray) (i : Nat) : Int := match s[i]? with | some b => (b.toNat : Int) | none => 0
/-! Maps. -/
def mhas {V : Type} (xs : List (Unit × Int × V)) (n : Int) : Bool := xs.any fun e => e.2.1 == n
def mget {V : Type} (d : V) : List (Unit × Int × V) → Int → V
  | [], _ => d
  | e :: r, n => if e.2.1 = n then e.2.2 else mget d r n
def mset {V : Type} : List (Unit × Int × V) → Int → V → List (Unit × Int × V)
  | [], n, y => [((), n, y)]
  | e :: r, n, y => if e.2.1 = n then ((), n, y) :: r else e :: mset r n y
def lookM (ok : Bool) (k' : IntKind) (n : Int) : (t : Ty) → List t.den → Option AV
  | .pair .unit (.pair (.int k) v), xs => if k' = k then (match ok with
    | false => mkAV v.isAgg (flat v (mget v.dflt xs n))
    | true => some (.tup [(v.isAgg, flat v (mget v.dflt xs n)), (false, [.bool (mhas xs n)])])) else none
  | _, _ => none
def cands (n : Nat) (seen : List Nat) : List Nat := (List.range n).filter fun i => !seen.contains i
def cur {V : Type} (d : V) (es : List (Unit × Int × V)) (seen : List Nat) : Unit × Int × V := es.getD (seen.getLastD 0) ((), 0, d)
open Classical in
/-- Whichever comes: it must come to the same. -/
noncomputable def pickAll {V R : Type} (es : List (Unit × Int × V)) (seen : List Nat) (over : Option R) (f : Nat → (Unit × Int × V) → Option R) : Option R :=
  match (cands es.length seen).filterMap fun i => (es[i]?).map fun x => (i, x) with
  | [] => over
  | p :: r => if ∀ q ∈ r, f q.1 q.2 = f p.1 p.2 then f p.1 p.2 else none
/-- The operations that change nothing that is there: a check, what comes, and new rows from the number n on. -/
def opQ (C : Ctx) (env : List AV) (H : Heap) (n : Nat) (o : Oper) : Option (Bool × AV × List Slot) :=
  match o.op with
  | .move x | .assign x => (opd C env n o.type x).map fun p => (true, p.1, p.2)
  | .alloc e => match C.arr e with
   | some q => some (true, .one (.ptr n 0 0), [.row true e q.2 (List.replicate q.1 q.2.dflt)])
   | none => (C.ty e).bind fun t => match fixC C.el t (zeroC t) (n + 1) with | (cs, sl, []) => some (true, .one (.ptr n 0 0), .box t cs :: sl) | _ => none
  | .box e x => (C.ty e).bind fun t => (opd C env (n + 1) e x).bind fun p => p.1.cells.bind fun cs => some (true, .one (.ptr n 0 0), .box t cs :: p.2)
  | .build t parts => (C.fld t 0).bind fun _ => (C.ty t).bind fun ty => (foldB H C t env parts.toList (zeroC ty)).bind fun cs =>
    match fixC C.el ty cs n with | (cs', sl, []) => some (true, .agg cs', sl) | _ => none
  | .buildSlice t len parts => match C.ty t with
    | some (.sl e) => (foldS H e env parts.toList (List.replicate len e.dflt)).bind fun xs => if len * e.size ≤ 16777216 ∧ e.isMp = false then some (true, .one (.ref n), [.row true (C.el e) e xs]) else none
    | _ => none
  | .load t a => (C.ty t).bind fun ty => (oprC env a).bind fun c => (readP H ty.size c).bind fun cs => (mkAV ty.isAgg cs).map fun v => (true, v, [])
  | .nilCheck x => (oprC env x).bind fun c => (nilP H c).map fun q => (true, .one q, [])
  | .binOp op t x y _ => match C.eqs t with
   | some T => (opr env x).bind fun u => (opr env y).bind fun v => (eqS T op u v).map fun c => (true, .one c, [])
   | none => (oprC env x).bind fun a => (oprC env y).bind fun b => match binQ op a b with
    | some p => some (p.1, .one p.2, [])
    | none => (binT (C.ty t) op a b).map fun c => (true, .one c, [])
  | .unOp op _ x => (oprC env x).bind fun a => (unQ op a).map fun c => (true, .one c, [])
  | .convert s d x => (oprC env x).bind fun a => match C.ty s, C.ty d, a with
    | some (.int _), some (.int k), .int _ m => some (true, .one (.int k (k.wrap m)), [])
    | _, _, _ => none
  | .makeFunc (.func f) a b => (pvs (C.pty f) 0 (a.toList.map (opr env))).bind fun a' => (pvs (fun _ => none) 0 (b.toList.map (opr env))).map fun b' => (true, .one (.fn f a' b'), [])
  | .makeSlice t l c => match C.ty t with
    | some (.sl e) => match e.isMp with | true => none | false => (oprC env l).bind fun a => (intOf a).bind fun p => (oprC env c).bind fun b => (intOf b).map fun q =>
      (decide (0 ≤ p.2) && (decide (p.2 ≤ q.2) && decide (q.2 < 1099511627776)), .one (.ref n), [.row true (C.el e) e (List.replicate p.2.toNat e.dflt)])
    | _ => none
  | .slice ty x lo hi none => (C.ty ty).bind fun T => (oprC env x).bind fun c =>
    (bndQ env lo).bind fun lo' => (bndQ env hi).bind fun hi' =>
    (sliceQ T H lo' hi' c).map fun (p : Bool × CV) => (p.1, .one p.2, [])
  | .fieldAddr s x f => (oprC env x).bind fun c => (C.fld s f).bind fun fl => (fldP H fl.off c).map fun q => (true, .one q, [])
  | .field s x f => (opr env x).bind fun v => (C.fld s f).bind fun fl => match v with
    | .agg cs => (cutC cs fl.off fl.size).bind fun us => (mkAV fl.agg us).map fun v => (true, v, [])
    | _ => none
  | .indexAddr ty x ix => match C.arr ty with
   | some q => (oprC env x).bind fun c => (oprC env ix).bind fun j => (intOf j).bind fun p => match c with
    | .ptr h 0 0 => match slotAt H h with
      | .row _ _ t xs => if t = q.2 then some (decide (0 ≤ p.2) && (decide (p.2 < xs.length) && decide (p.2 < (q.1 : Int))), .one (.ptr h p.2.toNat 0), []) else none
      | _ => none
    | _ => none
   | none => (C.ty ty).bind fun T => (oprC env x).bind fun c => (oprC env ix).bind fun j => (intOf j).bind fun p => match c with
    | .vsl t xs => if T = .sl t ∧ t.isMp = false then some (decide (0 ≤ p.2) && decide (p.2 < xs.length), .one (.fptr t (xs.getD p.2.toNat t.dflt) 0), []) else none
    | .ref h => match slotAt H h with
      | .row _ _ t xs => if T = .sl t ∧ t.isMp = false then some (decide (0 ≤ p.2) && decide (p.2 < xs.length), .one (.ptr h p.2.toNat 0), []) else none
      | _ => none
    | .sub h o l => match slotAt H h with
      | .row _ _ t xs => if T = .sl t ∧ t.isMp = false then some (decide (0 ≤ p.2) && decide (p.2 < l), .one (.ptr h (o + p.2.toNat) 0), []) else none
      | _ => none
    | _ => none
  | .extract x i => (opr env x).bind fun v => match v with
    | .tup vs => (vs[i]?).bind fun p => (mkAV p.1 p.2).map fun v => (true, v, [])
    | _ => none
  | .index t x ix => match C.ty t with
    | some .str => (oprC env x).bind fun c => (oprC env ix).bind fun j => (intOf j).bind fun p => match c with
      | .str s => some (decide (0 ≤ p.2) && decide (p.2 < (s.size : Int)), .one (.int .u8 (byteAt s p.2.toNat)), [])
      | _ => none
    | _ => none
  | .entry x => (oprC env x).bind fun c => (asRef c).bind fun h => match slotAt H h with
    | .iter k v es seen => some (!seen.isEmpty, .tup [(false, [.int k (cur v.dflt es seen).2.1]), (v.isAgg, flat v (cur v.dflt es seen).2.2)], [])
    | _ => none
  | .makeMap t none => match C.ty t with
    | some (.sl e) => match e.isMp with | true => some (true, .one (.ref n), [.row true (C.el e) e []]) | false => none
    | _ => none
  | .lookup t x ix ok => (C.ty t).bind fun T => (oprC env x).bind fun c => (oprC env ix).bind fun j => (intOf j).bind fun p => (rowOf H c).bind fun r =>
    if T = .sl r.1 then (lookM ok p.1 p.2 r.1 r.2).map fun v => (true, v, []) else none
  | .call { callee := .builtin .len, args, argTypes } => (args[0]?).bind fun x => (argTypes[0]?).bind fun ty => (C.ty ty).bind fun T => (oprC env x).bind fun c => (lenOf T H c).map fun m => (true, .one (.int .i64 m), [])
  | .call { callee := .builtin .max, args, argTypes := _ } => match args.toList with | [x, y] => (oprC env x).bind fun a => (oprC env y).bind fun b => (mmQ true a b).map fun c => (true, .one c, []) | _ => none
  | .call { callee := .builtin .min, args, argTypes := _ } => match args.toList with | [x, y] => (oprC env x).bind fun a => (oprC env y).bind fun b => (mmQ false a b).map fun c => (true, .one c, []) | _ => none
  | _ => none
/-- What is laid into a row stays as it is from then on. -/
def frz1 (H : Heap) : CV → Option (CV × Heap)
  | .ref h => match slotAt H h with | .row _ e t xs => some (.vsl t xs, H.set h (.row false e t xs)) | _ => none
  | .sub h o l => match slotAt H h with | .row _ e t xs => some (.vsl t ((xs.drop o).take l), H.set h (.row false e t xs)) | _ => none
  | c => some (c, H)
def frzL (H : Heap) : List CV → Option (List CV × Heap)
  | [] => some ([], H)
  | c :: r => (frz1 H c).bind fun p => (frzL p.2 r).map fun q => (p.1 :: q.1, q.2)
def foldF (e : Ty) (env : List AV) : List (Nat × Operand) → List e.den → Heap → Option (List e.den × Heap)
  | [], xs, H => some (xs, H)
  | (i, x) :: r, xs, H => (opr env x).bind fun v => v.cells.bind fun us => (frzL H us).bind fun p => (unflat1 e p.1).bind fun y =>
    if i < xs.length then foldF e env r (xs.set i y) p.2 else none
def storeP (H : Heap) (us : List CV) (sl : List Slot) (c : CV) : Option Heap :=
  match c with
  | .ptr h i off => match slotAt H h with
    | .box bt cs => if i = 0 ∧ off + us.length ≤ cs.length then some ((H.set h (.box bt (setAt cs off us))) ++ sl) else none
    | .row .. => if sl.length = 0 then (frzL H us).bind fun p => match slotAt p.2 h with
      | .row true e t xs => if off + us.length ≤ t.size ∧ t.isMp = false then (unflat1 t (setAt (flat t (xs.getD i t.dflt)) off p.1)).map fun y => p.2.set h (.row true e t (xs.set i y)) else none
      | _ => none
      else none
    | _ => none
  | _ => none
def castRow (t : Ty) (r : (t : Ty) × List t.den) : Option (List t.den) := if h : r.1 = t then some (h ▸ r.2) else none
def AV.agg? : AV → Bool
  | .agg _ => true | _ => false
def storeM (H : Heap) (T : Ty) (h : Nat) (k' : IntKind) (n : Int) (agg : Bool) (us : List CV) : Option Heap := (frzL H us).bind fun p => match slotAt p.2 h with
  | .row true e (.pair .unit (.pair (.int k) v)) xs => if T = .sl (.mpe k v) ∧ k' = k ∧ agg = v.isAgg then (unflat1 v p.1).map fun y => p.2.set h (.row true e (.mpe k v) (mset xs n y)) else none
  | _ => none
def mapK (C : Ctx) (env : List AV) (H : Heap) (t : TypeId) (m key x : Operand) : Option Heap :=
  (C.ty t).bind fun T => (oprC env m).bind fun c => (oprC env key).bind fun j => (intOf j).bind fun p => (opr env x).bind fun u => u.cells.bind fun us => (asRef c).bind fun h => storeM H T h p.1 p.2 u.agg? us
/-- The operations that change what is there. -/
def opE (C : Ctx) (env : List AV) (H : Heap) (o : Oper) : Option (Bool × AV × Heap) :=
  match o.op with
  | .store t a x => (C.ty t).bind fun ty => (oprC env a).bind fun c => (opd C env H.length t x).bind fun p => p.1.cells.bind fun us =>
    if us.length = ty.size then (storeP H us p.2 c).map fun H' => (true, .undef, H') else none
  | .buildSlice t len parts => match C.ty t with
    | some (.sl e) => (foldF e env parts.toList (List.replicate len e.dflt) H).bind fun p => if len * e.size ≤ 16777216 ∧ e.isMp = false then some (true, .one (.ref p.2.length), p.2 ++ [Slot.row true (C.el e) e p.1]) else none
    | _ => none
  | .range t x => (C.ty t).bind fun T => (oprC env x).bind fun c => (asRef c).bind fun h => match slotAt H h with
    | .row true e (.pair .unit (.pair (.int k) v)) xs => if T = .sl (.mpe k v) then some (true, .one (.ref H.length), (H.set h (.row false e (.mpe k v) xs)) ++ [Slot.iter k v xs []]) else none
    | _ => none
  | .mapUpdate t m key x => (mapK C env H t m key x).map fun H' => (true, .undef, H')
  | .insert t m key x => (mapK C env H t m key x).map fun H' => (true, .undef, H')
  | .call { callee := .builtin .append, args, argTypes } => match args.toList, argTypes.toList with
    | [s, x], [t1, t2] => if t1 = t2 then (C.ty t1).bind fun T => (oprC env s).bind fun a => (oprC env x).bind fun b => match a with
      | .ref h => match slotAt H h with
        | .row true i t xs => if T = .sl t ∧ i = C.el t ∧ t.isMp = false then (rowOf H b).bind fun r => (castRow t r).map fun ys =>
            (decide ((xs ++ ys).length < 1099511627776), .one (.ref H.length), (H.set h .dead) ++ [Slot.row true i t (xs ++ ys)]) else none
        | _ => none
      | _ => none
      else none
    | _, _ => none
  | _ => none

inductive Ex where
  | normal | exit (id : Nat) | ret
/-! ### States, told anew: what is alive, the rows by new numbers -/
def roots (env : List AV) (live : List Nat) : List Nat := live.flatMap fun t => hsA (envAt env t)
def reach (H : Heap) : Nat → List Nat → List Nat → List Nat
  | 0, _, acc => acc
  | _ + 1, [], acc => acc
  | k + 1, h :: r, acc => if acc.contains h then reach H k r acc else
    match slotAt H h with
    | .box _ cs => reach H k (cs.flatMap hsC ++ r) (acc ++ [h])
    | .dead => reach H k r acc
    | _ => reach H k r (acc ++ [h])
def newH (ord : List Nat) (h : Nat) : Option Nat := ord.idxOf? h
def renP (ord : List Nat) : PV → Option PV
  | .ptr h i o => (newH ord h).map fun h => .ptr h i o
  | p => some p
def ren1 (ord : List Nat) : CV → CV
  | .ref h => match newH ord h with | some h => .ref h | none => .undef
  | .sub h o l => match newH ord h with | some h => .sub h o l | none => .undef
  | .ptr h i o => match newH ord h with | some h => .ptr h i o | none => .undef
  | .fn f a b => match a.mapM (renP ord), b.mapM (renP ord) with | some a, some b => .fn f a b | _, _ => .undef
  | c => c
def renA (ord : List Nat) : AV → AV
  | .one c => .one (ren1 ord c)
  | .agg cs => .agg (cs.map (ren1 ord))
  | .tup _ => .undef
  | .undef => .undef
def renS (ord : List Nat) : Slot → Slot
  | .box t cs => .box t (cs.map (ren1 ord))
  | s => s
def keepFrom (live : List Nat) (ord : List Nat) : Nat → List AV → List AV
  | _, [] => []
  | i, v :: r => (if live.contains i then renA ord v else .undef) :: keepFrom live ord (i + 1) r
structure St where
  env : List AV
  heap : Heap
  roots : List CV
  deriving Inhabited
/-- What a function is handed: values, and what it may write of the caller's. -/
structure Pack where
  vs : List AV
  heap : Heap
  roots : List CV
def put (env : List AV) (d : Option Tmp) (v : AV) : List AV := match d with | some d => env.set d v | none => env
/-- Rows that a result may share with stay as they are from now on. -/
def freeze (H : Heap) : List Nat → Option Heap
  | [] => some H
  | h :: hs => match slotAt H h with
    | .row _ e t xs => freeze (H.set h (.row false e t xs)) hs
    | _ => none
section
variable {R : Type}
def callee (env : List AV) (f : Operand) : Option (FuncId × List PV × List PV) :=
  (oprC env f).bind fun c => match c with | .fn f a b => some (f, a, b) | _ => none
/-- Nil slices as lists. -/
def nilC : Ty → List CV → List CV × List CV
  | .sl t, .nils :: r => match t.isMp with | true => ([.undef], r) | false => ([.vsl t []], r)
  | .pair a b, cs => let p := nilC a cs; let q := nilC b p.2; (p.1 ++ q.1, q.2)
  | .unit, cs => ([], cs)
  | _, c :: r => ([c], r)
  | _, [] => ([], [])
def argD1 (C : Ctx) (env : List AV) (b : Bool) (t : TypeId) (x : Operand) : Option AV :=
  match isConst x && !b with
  | false => opr env x
  | true => (opr env x).bind fun v => match C.ty t with
    | none => some v
    | some ty => match v with
      | .one c => match nilC ty [c] with | ([c'], []) => some (.one c') | _ => none
      | .agg cs => match nilC ty cs with | (cs', []) => some (.agg cs') | _ => none
      | _ => none
def argD (C : Ctx) (env : List AV) (b : Bool) : List Operand → List TypeId → Option (List AV)
  | [], _ => some []
  | x :: l, t :: m => (argD1 C env b t x).bind fun u => (argD C env b l m).map fun r => u :: r
  | _ :: _, [] => none
/-- Are nil slices handed on as such? -/
def keepN (C : Ctx) (c : Call) : Bool := match c.callee with
  | .value (.func g) => C.nils g
  | _ => false
def mapA {α β : Type} (f : α → Option β) : List α → Option (List β)
  | [] => some []
  | a :: l => (f a).bind fun b => (mapA f l).map fun r => b :: r
/-- What a call is handed: the arguments, told as values, and whose rows they are. -/
def argsOf (C : Ctx) (env : List AV) (H : Heap) (c : Call) (a b : List PV) : Option (List AV × List Nat) :=
  (argD C env (keepN C c) c.args.toList c.argTypes.toList).bind fun vs =>
  (mapA PV.av a).bind fun a' => (mapA PV.av b).bind fun b' =>
  (mapA (pureA H) (a' ++ (vs ++ b'))).map fun us => (us, (a'.flatMap hsA) ++ (vs.flatMap hsA ++ b'.flatMap hsA))
abbrev CallK (R : Type) := FuncId → Pack → (AV → Option R) → Option R
/-! What is lent to be written: variables behind pointers, and rows. -/
def lentV (C : Ctx) : AV → List Nat
  | .one (.fn f a b) => match C.lendc f with | true => a.flatMap hsP ++ b.flatMap hsP | false => []
  | _ => []
def lentC : AV → List Nat
  | .one (.ref h) => [h]
  | .one (.ptr h _ _) => [h]
  | _ => []
def lentAt (C : Ctx) (ls : List Nat) : Nat → List AV → List Nat
  | _, [] => []
  | i, v :: r => (match ls.contains i with | true => lentC v | false => lentV C v) ++ lentAt C ls (i + 1) r
def lentOf (C : Ctx) (env : List AV) (g : FuncId) (c : Call) (a b : List PV) : Option (List Nat) :=
  (argD C env (keepN C c) c.args.toList c.argTypes.toList).map fun us => (match C.lendc g with | true => a.flatMap hsP ++ b.flatMap hsP | false => []) ++ lentAt C (C.lends g) 0 us
def packP (H : Heap) (ord : List Nat) : PV → Option PV
  | .ptr h i o => match ord.contains h with | true => renP ord (.ptr h i o) | false => pureP H (.ptr h i o)
  | p => some p
def packC (H : Heap) (ord : List Nat) : CV → Option CV
  | .ref h => match ord.contains h with | true => some (ren1 ord (.ref h)) | false => pure1 H (.ref h)
  | .sub h o l => match ord.contains h with | true => some (ren1 ord (.sub h o l)) | false => pure1 H (.sub h o l)
  | .ptr h i o => match ord.contains h with | true => some (ren1 ord (.ptr h i o)) | false => pureC H (.ptr h i o)
  | .fn f a b => (a.mapM (packP H ord)).bind fun a' => (b.mapM (packP H ord)).bind fun b' => some (.fn f a' b')
  | c => pure1 H c
def packA (H : Heap) (ord : List Nat) : AV → Option AV
  | .one c => (packC H ord c).map .one
  | .agg cs => (cs.mapM (packC H ord)).map .agg
  | _ => none
def rootC (H : Heap) (ord : List Nat) (h : Nat) : Option CV := match newH ord h with
  | some k => match slotAt H h with | .box .. => some (.ptr k 0 0) | .row true .. => some (.ref k) | _ => none
  | none => none
def isRow (H : Heap) (h : Nat) : Bool := match slotAt H h with | .row .. => true | _ => false
def packOf (C : Ctx) (env : List AV) (H : Heap) (c : Call) (a b : List PV) (hsL : List Nat) : Option (Pack × List Nat × List Nat) :=
  (argD C env (keepN C c) c.args.toList c.argTypes.toList).bind fun us => (mapA PV.av a).bind fun a' => (mapA PV.av b).bind fun b' =>
  let vs := a' ++ (us ++ b')
  let ord := reach H (H.length * 8 + 64) hsL []
  let hs := (vs.flatMap hsA).filter fun h => !ord.contains h
  match decide ord.Nodup && (decide hsL.Nodup && hs.all (isRow H)) with
  | false => none
  | true => (mapA (packA H ord) vs).bind fun us' => (mapA (rootC H ord) hsL).map fun rts => (⟨us', ord.map fun h => renS ord (slotAt H h), rts⟩, hs, ord)
def killAll (H : Heap) : List Nat → Heap
  | [] => H
  | h :: r => killAll (H.set h .dead) r
/-- What came back of what was lent, in its place. -/
def putParts (H : Heap) : List Nat → List (Bool × List CV) → Heap → Option Heap
  | [], _, H2 => some H2
  | _ :: _, [], _ => none
  | h :: r, (_, cs) :: us, H2 => match slotAt H h with
    | .box t _ => putParts H r us (H2.set h (.box t cs))
    | .row true e t xs => match cs with
      | [.ref k] => match slotAt H2 k with
        | .row true e' t' xs' => if t' = t ∧ H.length ≤ k then putParts H r us ((H2.set k .dead).set h (.row true e' t' xs')) else none
        | _ => none
      | _ => none
    | _ => none
def afterL (H : Heap) (hsL hs ord : List Nat) : AV → Option (AV × Heap)
  | .tup us => match (match us.any (fun p => p.2.any alias1) with | false => some H | true => freeze H hs) with
    | none => none
    | some H1 => match adoptT us (killAll H1 ord).length with
      | (us', sl) => (putParts H hsL (us'.take hsL.length) (killAll H1 ord ++ sl)).bind fun H3 => match us'.drop hsL.length with
        | [u] => (mkAV u.1 u.2).map fun v => (v, H3)
        | rest => some (.tup rest, H3)
  | _ => none
open Classical in
/-- Both ways come to the same. -/
noncomputable def both (x y : Option R) : Option R := if x = y then x else none
/-- Is a slice compared with nil? Of one that isn't empty the answer is known. -/
def nilT (C : Ctx) (env : List AV) (op : BinOp) (t : TypeId) (x y : Operand) : Option Bool :=
  match op, y with
  | .eql, .const (.slice none 0 0) => match C.ty t with
    | some (.sl T) => (oprC env x).bind fun c => match c with
      | .vsl T' xs => match T.isMp || T'.isMp with | true => none | false => some xs.isEmpty
      | _ => none
    | _ => none
  | _, _ => none
/-- One operation. -/
noncomputable def doK (C : Ctx) (call : CallK R) (quiet : Bool) (o : Oper) (env : List AV) (H : Heap) (K : AV → Heap → Option R) : Option R :=
  match o.op with
  | .pick c a b => match oprC env c with
    | some (.bool t) => match t with
      | true => match opr env a with | some v => K v H | none => none
      | false => match opr env b with | some v => K v H | none => none
    | _ => none
  | .next x s => match C.nxt, quiet, s with
    | true, false, false => match oprC env x with
      | some (.ref h) => match slotAt H h with
        | .iter k v es seen => pickAll es seen (K (.tup [(false, [.bool false])]) H) fun i e => K (.tup [(false, [.bool true]), (false, [.int k e.2.1]), (v.isAgg, flat v e.2.2)]) (H.set h (.iter k v es (seen ++ [i])))
        | _ => none
      | _ => none
    | _, _, _ => none
  | .binOp op t x y _ => match C.nxt, quiet, nilT C env op t x y with
    | true, false, some e => (match e with
      | true => both (K (.one (.bool true)) H) (K (.one (.bool false)) H)
      | false => K (.one (.bool false)) H)
    | _, _, _ => match opQ C env H H.length o with
      | some (b, v, sl) => match b with | true => K v (H ++ sl) | false => none
      | none => if quiet then none else match opE C env H o with
        | some (b, v, H') => match b with | true => K v H' | false => none
        | none => none
  | .call c => match c.callee with
    | .value f => match callee env f with
      | none => none
      | some (g, a, b) => match lentOf C env g c a b with
        | none => none
        | some [] => match argsOf C env H c a b with
          | none => none
          | some (vs, hs) => call g ⟨vs, [], []⟩ fun r =>
            match (match aliasA r with | false => some H | true => if quiet && !hs.isEmpty then none else freeze H hs) with
            | none => none
            | some H' => match adoptA r H'.length with | (r', sl) => K r' (H' ++ sl)
        | some (h :: hsL) => match quiet with
          | true => none
          | false => match packOf C env H c a b (h :: hsL) with
            | none => none
            | some (pk, hs, ord) => call g pk fun r => match afterL H (h :: hsL) hs ord r with
              | none => none
              | some (r', H') => K r' H'
    | _ => match opQ C env H H.length o with
      | some (b, v, sl) => match b with | true => K v (H ++ sl) | false => none
      | none => if quiet then none else match opE C env H o with
        | some (b, v, H') => match b with | true => K v H' | false => none
        | none => none
  | _ => match opQ C env H H.length o with
    | some (b, v, sl) => match b with | true => K v (H ++ sl) | false => none
    | none => if quiet then none else match opE C env H o with
      | some (b, v, H') => match b with | true => K v H' | false => none
      | none => none
/-- Operations one behind the other; the first q ones change nothing that is there; those of 'lt' may come late, and look at nothing that is there. -/
noncomputable def opsK (C : Ctx) (call : CallK R) (ops : Array Oper) : (q : Nat) → (lt : List Bool) → List Oper → St → (St → Option R) → Option R
  | _, _, [], st, K => K st
  | q, lt, o :: rest, st, K =>
    match lt.headD false with
    | true => match o.guard with
      | none => match opQ C st.env [] 0 o with
        | some (b, v, []) => match b with | true => opsK C call ops (q - 1) lt.tail rest ⟨put st.env o.dst v, st.heap, st.roots⟩ K | false => none
        | _ => none
      | some _ => none
    | false => match o.guard with
    | none => doK C call (0 < q) o st.env st.heap fun v H => opsK C call ops (q - 1) lt.tail rest ⟨put st.env o.dst v, H, st.roots⟩ K
    | some (j, want) => match (ops[j]?).bind (·.dst) with
      | none => none
      | some d => match envAt st.env d with
        | .one (.bool b) => match b with
          | true => match want with
            | true => doK C call (0 < q) o (st.env.set d (.one (.bool true))) st.heap fun v H => opsK C call ops (q - 1) lt.tail rest ⟨put (st.env.set d (.one (.bool true))) o.dst v, H, st.roots⟩ K
            | false => opsK C call ops (q - 1) lt.tail rest ⟨put (st.env.set d (.one (.bool true))) o.dst (.tup []), st.heap, st.roots⟩ K
          | false => match want with
            | true => opsK C call ops (q - 1) lt.tail rest ⟨put (st.env.set d (.one (.bool false))) o.dst (.tup []), st.heap, st.roots⟩ K
            | false => doK C call (0 < q) o (st.env.set d (.one (.bool false))) st.heap fun v H => opsK C call ops (q - 1) lt.tail rest ⟨put (st.env.set d (.one (.bool false))) o.dst v, H, st.roots⟩ K
        | .tup [] => opsK C call ops (q - 1) lt.tail rest ⟨put st.env o.dst (.tup []), st.heap, st.roots⟩ K
        | _ => none
def edges (o : Oper) : List Nat := (o.after.toList.filter fun e => Region.binds .any e).map (·.on)
def mask (acc : List Nat) : List Nat → Nat
  | [] => 0
  | j :: r => (2 ^ j ||| acc.getD j 0) ||| mask acc r
/-- What comes ahead of each operation, as bits. -/
def clos : List Oper → List Nat → List Nat
  | [], acc => acc
  | o :: r, acc => clos r (acc ++ [mask acc (edges o)])
def tailAt (cl : List Nat) : Nat → Nat
  | 0 => 0
  | i + 1 => if cl.getD i 0 == 2 ^ i - 1 then tailAt cl i else i + 1
def quietOk (ops : Array Oper) (cl : List Nat) (q : Nat) (oi : Oper × Nat) : Bool :=
  (ops.toList.take q).zipIdx.all fun oj => oj.2 == oi.2 || match oj.1.dst with
    | none => true
    | some t => oi.1.dst != some t && (!(oi.1.looksAt ops).contains t || ((cl.getD oi.2 0).testBit oj.2 || (cl.getD oj.2 0).testBit oi.2))
/-- Does an operation change what is there? -/
def isEff (o : Oper) : Bool := match o.op with
  | .store .. | .mapUpdate .. | .insert .. | .range .. | .next .. => true
  | .call { callee := .builtin .append, .. } => true
  | _ => false
def firstEff : List Oper → Nat
  | [] => 0
  | o :: r => match isEff o with | true => 0 | false => firstEff r + 1
/-- Which of the first q may come behind one of the rest. -/
def lates (cl : List Nat) (n q : Nat) : List Bool := (List.range q).map fun i => (List.range n).any fun j => decide (q ≤ j) && !(cl.getD j 0).testBit i
def lateOk (ops : Array Oper) (cl : List Nat) (q : Nat) (oj : Oper × Nat) : Bool :=
  oj.1.guard.isNone && match oj.1.dst with
    | none => false
    | some t => !(oj.1.looksAt ops).contains t && ops.toList.zipIdx.all fun oi => oi.2 == oj.2 || (match decide (oi.2 < q) with
      | true => (match oi.1.dst with | none => true | some u => !(oj.1.looksAt ops).contains u || (cl.getD oj.2 0).testBit oi.2)
      | false => oi.1.dst != some t && ((!(oi.1.looksAt ops).contains t || (cl.getD oi.2 0).testBit oj.2) && (match oi.1.dst with | none => true | some u => !(oj.1.looksAt ops).contains u)))
/-- Of a region that draws its order: how many operations, from the first on, may come in any order, and which of them behind the rest, too; none: the region may not be. -/
def drawAt (ops : Array Oper) (len : Nat) : Option (Nat × List Bool) :=
  let cl := clos ops.toList []
  let q := min (tailAt cl ops.size) (firstEff ops.toList)
  let lt := lates cl ops.size q
  if ops.toList.zipIdx.all (fun oi => (edges oi.1).all (· < oi.2) && ((match oi.1.dst with | none => true | some t => t < len) && (oi.2 < q || (List.range oi.2).all fun j => (cl.getD oi.2 0).testBit j || lt.getD j false))) && ((ops.toList.take q).zipIdx.all (quietOk ops cl q) && (ops.toList.take q).zipIdx.all fun oj => !lt.getD oj.2 false || lateOk ops cl q oj) then some (q, lt) else none

/-! The operations in another order, numbered anew: those ahead that change nothing. -/
def renE (pos : List Nat) (n : Nat) (e : Edge) : Edge := { e with on := pos.getD e.on n }
def renO (pos : List Nat) (n : Nat) (o : Oper) : Oper := { o with after := o.after.map (renE pos n), guard := o.guard.map fun p => (pos.getD p.1 n, p.2) }
def posOf (ord : List Nat) : List Nat := (List.range ord.length).map fun i => ord.idxOf i
def reord (ord : List Nat) (ops : Array Oper) : Array Oper := (ord.filterMap fun i => (ops[i]?).map (renO (posOf ord) ops.size)).toArray
def depE : List Oper → List Bool → List Bool
  | [], acc => acc
  | o :: r, acc => depE r (acc ++ [isEff o || (edges o).any fun j => acc.getD j false])
def ordOf (ops : Array Oper) : List Nat :=
  let d := depE ops.toList []
  (List.range ops.size).filter (fun i => !d.getD i false) ++ (List.range ops.size).filter (fun i => d.getD i false)
/-- A region as the machine runs it. -/
def drawn (draw : Bool) (ops : Array Oper) (len : Nat) : Option (Array Oper × Nat × List Bool) := match draw with
  | false => some (ops, 0, [])
  | true => match drawAt ops len with
    | some p => some (ops, p)
    | none => (drawAt (reord (ordOf ops) ops) len).map fun p => (reord (ordOf ops) ops, p)

/-! ### States, told anew -/
def norm (live : List Nat) (st : St) : Option St :=
  let ord := reach st.heap (st.heap.length * 8 + 64) (roots st.env live ++ st.roots.flatMap hsC) []
  if ord.Nodup then some ⟨keepFrom live ord 0 st.env, ord.map fun h => renS ord (slotAt st.heap h), st.roots.map (ren1 ord)⟩ else none

def dropH (h : Nat) (v : AV) : AV := if (hsA v).contains h then .undef else v
def noRef (h : Nat) (s : Slot) : Bool := match s with | .box _ cs => !(cs.flatMap hsC).contains h | _ => true
/-- A part of a row becomes a row of its own: nothing else leads there any more. -/
def reown (t : Nat) (st : St) : Option St :=
  match envAt st.env t with
  | .one (.sub h o l) => match slotAt st.heap h with
    | .row true e T xs => match !T.isMp && (st.heap.all (noRef h) && !(st.roots.flatMap hsC).contains h) with
      | true => some ⟨(st.env.map (dropH h)).set t (.one (.ref h)), st.heap.set h (.row true e T ((xs.drop o).take l)), st.roots⟩
      | false => none
    | _ => none
  | .one (.ref h) => some st
  | _ => none
/-- A slice in a variable stays as it is from now on. -/
def frzAt (z : Nat × Nat) (st : St) : Option St := if z.2 = 999 then reown z.1 st else
  match envAt st.env z.1 with
  | .one (.ptr h _ _) => match slotAt st.heap h with
    | .box t cs => match cs[z.2]? with
      | some c => (frz1 st.heap c).bind fun p => match slotAt p.2 h with
        | .box .. => some ⟨st.env, p.2.set h (.box t (cs.set z.2 p.1)), st.roots⟩
        | _ => none
      | none => none
    | _ => none
  | .one c => (frz1 st.heap c).map fun p => ⟨st.env.set z.1 (.one p.1), p.2, st.roots⟩
  | .agg cs => match cs[z.2]? with
    | some c => (frz1 st.heap c).map fun p => ⟨st.env.set z.1 (.agg (cs.set z.2 p.1)), p.2, st.roots⟩
    | none => none
  | _ => none
def frzAll : List (Nat × Nat) → St → Option St
  | [], st => some st
  | z :: r, st => match frzAt z st with | some s => frzAll r s | none => none
def prep (z : List (Nat × Nat)) (live : List Nat) (st : St) : Option St := match frzAll z st with | some s => norm live s | none => none
section
variable (C : Ctx) (fid : FuncId) (call : CallK R) (k : Nat)
def loopK (body : St → (Ex → St → Option R) → Option R) (l : LH) (K : Ex → St → Option R) : Nat → St → Option R
  | 0, _ => none
  | m + 1, st => body st fun e st' => match e with
    | .normal => match prep l.zhead l.head st' with | some s => loopK body l K m s | none => none
    | .exit id => match prep l.zexit l.exit st' with | some s => K (.exit id) s | none => none
    | .ret => match prep l.zret l.ret st' with | some s => K .ret s | none => none
noncomputable def aCode : Code → Nat → St → (Ex → St → Option R) → Option R
  | .skip, _, st, K => K .normal st
  | .region _ ops draw, _, st, K => match drawn draw ops st.env.length with
    | some (ops', q, lt) => opsK C call ops' q lt ops'.toList st (K .normal)
    | none => none
  | .seq a b, id, st, K => aCode a id st fun e st' => match e with | .normal => aCode b id st' K | e => K e st'
  | .cond c a b, id, st, K => match c with
    | .tmp d => match envAt st.env d with
      | .one (.bool t) => match t with
        | true => aCode a id ⟨st.env.set d (.one (.bool true)), st.heap, st.roots⟩ K
        | false => aCode b id ⟨st.env.set d (.one (.bool false)), st.heap, st.roots⟩ K
      | _ => none
    | .const (.bool t) => match t with
      | true => aCode a id st K
      | false => aCode b id st K
    | _ => none
  | .block id c, _, st, K => aCode c id st fun e st' => match e with | .exit j => if j = id then K .normal st' else K (.exit j) st' | e => K e st'
  | .loop c, id, st, K => match prep (C.hint fid id).zhead (C.hint fid id).head st with
    | some s => loopK (fun st K => aCode c id st K) (C.hint fid id) K k s
    | none => none
  | .exit id, _, st, K => K (.exit id) st
  | .ret, _, st, K => K .ret st
  | _, _, _, _ => none
/-- The same, its loops told otherwise. -/
noncomputable def aCodeH (hook : Nat → St → (Ex → St → Option R) → Option R) : Code → Nat → St → (Ex → St → Option R) → Option R
  | .skip, _, st, K => K .normal st
  | .region _ ops draw, _, st, K => match drawn draw ops st.env.length with
    | some (ops', q, lt) => opsK C call ops' q lt ops'.toList st (K .normal)
    | none => none
  | .seq a b, id, st, K => aCodeH hook a id st fun e st' => match e with | .normal => aCodeH hook b id st' K | e => K e st'
  | .cond c a b, id, st, K => match c with
    | .tmp d => match envAt st.env d with
      | .one (.bool t) => match t with
        | true => aCodeH hook a id ⟨st.env.set d (.one (.bool true)), st.heap, st.roots⟩ K
        | false => aCodeH hook b id ⟨st.env.set d (.one (.bool false)), st.heap, st.roots⟩ K
      | _ => none
    | .const (.bool t) => match t with
      | true => aCodeH hook a id st K
      | false => aCodeH hook b id st K
    | _ => none
  | .block id c, _, st, K => aCodeH hook c id st fun e st' => match e with | .exit j => if j = id then K .normal st' else K (.exit j) st' | e => K e st'
  | .loop _, id, st, K => hook id st K
  | .exit id, _, st, K => K (.exit id) st
  | .ret, _, st, K => K .ret st
  | _, _, _, _ => none
end
/-! ### What a function hands back -/
def exp1 (H : Heap) (used : List Nat) : CV → Option (CV × List Nat)
  | .ref h => if used.contains h then none else match slotAt H h with
    | .row true e t xs => some (.own e t xs, h :: used)
    | .row false _ t xs => some (.vsl t xs, used)
    | _ => none
  | .sub h o l => match slotAt H h with
    | .row false _ t xs => some (.vsl t ((xs.drop o).take l), used)
    | _ => none
  | .nils | .own .. | .ptr .. | .undef => none
  | .fn _ _ _ => none
  | c => some (c, used)
def expL (H : Heap) (used : List Nat) : List CV → Option (List CV × List Nat)
  | [] => some ([], used)
  | c :: r => (exp1 H used c).bind fun p => (expL H p.2 r).map fun q => (p.1 :: q.1, q.2)
def expA (H : Heap) (used : List Nat) : AV → Option ((Bool × List CV) × List Nat)
  | .one c => (exp1 H used c).map fun p => ((false, [p.1]), p.2)
  | .agg cs => (expL H used cs).map fun p => ((true, p.1), p.2)
  | _ => none
def expT (H : Heap) (used : List Nat) : List AV → Option (List (Bool × List CV))
  | [] => some []
  | v :: r => (expA H used v).bind fun p => (expT H p.2 r).map fun q => p.1 :: q
def resV (C : Ctx) (st : St) : ResultVar → Option AV
  | .tmp t => match envAt st.env t with | .undef => none | v => some v
  | .cell a t => (C.ty t).bind fun ty => (cell1 (envAt st.env a)).bind fun c => (readP st.heap ty.size c).bind fun cs => mkAV ty.isAgg cs
def subs : CV → List Nat
  | .sub h _ _ => [h] | _ => []
def subsA : AV → List Nat
  | .one c => subs c | .agg cs => cs.flatMap subs | _ => []
/-- What stands in what was lent. -/
def rootV (H : Heap) : CV → Option AV
  | .ptr h i off => match slotAt H h with | .box t cs => if i = 0 ∧ off = 0 then some (.agg cs) else none | _ => none
  | .ref h => match slotAt H h with | .row true .. => some (.one (.ref h)) | _ => none
  | _ => none
/-- A function that is handed back: what it holds stays as it is. -/
def fnRes (st : St) (vs : List AV) : Option CV := match st.roots with
  | [] => match vs with | [.one (.fn f a b)] => some (.fn f a b) | _ => none
  | _ => none
def resK (C : Ctx) (fid : FuncId) (fn : Func) (st : St) : Option AV :=
  (fn.results.toList.mapM (resV C st)).bind fun vs => match fnRes st vs with
  | some c => (pureC st.heap c).map .one
  | none => (freeze st.heap (vs.flatMap (if C.shares fid then hsA else subsA))).bind fun H => match st.roots with
    | [] => (expT H [] vs).bind fun us => match us with
      | [u] => mkAV u.1 u.2
      | us => some (.tup us)
    | _ :: _ => (mapA (rootV H) st.roots).bind fun rs => (freeze H (rs.flatMap subsA)).bind fun H' => (expT H' [] (rs ++ vs)).map .tup
noncomputable def aFun (C : Ctx) (fid : FuncId) (fn : Func) (call : CallK R) (k : Nat) (args : Pack) (K : AV → Option R) : Option R :=
  match fn.body with
  | none => none
  | some c => aCode C fid call k c 0 ⟨args.vs ++ List.replicate (fn.ntmps - args.vs.length) .undef, args.heap, args.roots⟩ fun e st => match e with
    | .exit _ => none
    | _ => match resK C fid fn st with | some r => K r | none => none
end
/-- Functions that are told otherwise than by their text. -/
abbrev Prims := FuncId → Option (Pack → Option AV)
def Ctx.on (C : Ctx) : Ctx := { C with nxt := true }
noncomputable def aCallK (P : Program) (C : Ctx) (pr : Prims) : Nat → {R : Type} → FuncId → Pack → (AV → Option R) → Option R
  | 0, _, _, _, _ => none
  | k + 1, _, f, args, K => match pr f with
    | some g => match g args with | some r => K r | none => none
    | none => match P.funcs[f]? with
      | none => none
      | some fn => match C.nd f with
        | none => aFun C f fn (fun g vs K => aCallK P C pr k g vs K) k args K
        | some nf => match aFun C.on f fn (fun g vs (K : AV → Option AV) => aCallK P C pr k g vs K) k args some with
          | some r => match nf r with
            | some r' => K r'
            | none => none
          | none => none
end Go.Proofs.Ytanpdkllnmeenaa.Am
namespace Go.Proofs.Ytanpdkllnmeenaa.Am
open Go Go.RowKit
set_option linter.unusedVariables false

def RowC {α : Type} (R : α → List Value → Prop) (size : Nat) (xs : List α) (cells : List Value) : Prop :=
  cells.length = xs.length * size ∧ ∀ i x, xs[i]? = some x → R x ((cells.drop (i * size)).take size)
/-! A map is told as a row whose elements are keys and what they have. -/
def mpAgg : Ty → Bool
  | .pair .unit (.pair _ v) => v.isAgg | _ => false
def entCells (agg : Bool) (e : MapEntry) : List Value := e.key :: (match agg, e.val with | true, .agg a => a.toList | _, x => [x])
/-- The value that leads to a row. -/
def hdr (t : Ty) (A : Option Addr) (n c : Nat) : Value := match t.isMp with | true => .map (A.map (·.block)) | false => .slice A n c
/-- How a row lies there. -/
def Lies (t : Ty) (w : World) (g o : Nat) (cells : List Value) : Prop := match t.isMp with
  | true => ∃ arr : Array MapEntry, w.heap[g]? = some (.map arr arr.size) ∧ (∀ (i : Nat) (e : MapEntry), arr[i]? = some e → e.born = i ∧ (entCells (mpAgg t) e).length = t.size ∧ (mpAgg t = true → ∃ a, e.val = .agg a)) ∧ cells = (arr.toList.map (entCells (mpAgg t))).flatten
  | false => w.rangeAt g o cells
/-- A slice of one's own, and its block; it may begin within it. -/
def ownsAt (w : World) (e : TypeId) (size : Nat) (u : Value) (n : Nat) (cells : List Value) : Prop :=
  cells.length = n * size ∧ ((u = .slice none 0 0 ∧ n = 0) ∨
    ∃ g o cap cur, u = .slice (some ⟨g, o, none⟩) n cap ∧ w.heap[g]? = some (.cells cur e (0, 0)) ∧ n ≤ cap ∧ cap ≤ maxLen ∧ o + cap * size ≤ cur.size ∧ (cur.toList.drop o).take (n * size) = cells)
theorem own_of {w : World} {e : TypeId} {size : Nat} {u : Value} {n : Nat} {cells : List Value} (h : w.ownsRow 0 e size u n cells) : ownsAt w e size u n cells :=
  ⟨h.1, h.2.imp id fun ⟨g, cap, cur, h1, _, h2, h3, h4, h5, h6⟩ => ⟨g, 0, cap, cur, h1, h2, h3, h4, by omega, by simpa using h6⟩⟩
/-- A row of one's own. -/
def OwnsT (t : Ty) (w : World) (e : TypeId) (u : Value) (n : Nat) (cells : List Value) : Prop := match t.isMp with
  | true => ∃ g, u = .map (some g) ∧ Lies t w g 0 cells
  | false => ownsAt w e t.size u n cells
theorem hdr_sl {t : Ty} (h : t.isMp = false) (A : Option Addr) (n c : Nat) : hdr t A n c = .slice A n c := by simp [hdr, h]
theorem lies_sl {t : Ty} (h : t.isMp = false) {w : World} {g o : Nat} {cells : List Value} : Lies t w g o cells ↔ w.rangeAt g o cells := by simp [Lies, h]
theorem owns_sl {t : Ty} (h : t.isMp = false) {w : World} {e : TypeId} {u : Value} {n : Nat} {cells : List Value} : OwnsT t w e u n cells ↔ ownsAt w e t.size u n cells := by simp [OwnsT, h]
theorem hdr_one (t : Ty) (A : Option Addr) (n c : Nat) : (hdr t A n c).oneCell' = true := by
  unfold hdr
  split <;> rfl
def RepC (F : Nat → Prop) (w : World) : (t : Ty) → t.den → List Value → Prop
  | .int k, n, cs => cs = [.int k n]
  | .bool, b, cs => cs = [.bool b]
  | .str, s, cs => cs = [.string s]
  | .sl t, xs, cs => ∃ A cap, cs = [hdr t A xs.length cap] ∧ xs.length ≤ cap ∧
      ((xs = [] ∧ (t.isMp = true → A = none)) ∨ ∃ g o cells, A = some ⟨g, o, none⟩ ∧ F g ∧ RowC (RepC F w t) t.size xs cells ∧ Lies t w g o cells)
  | .pair a b, p, cs => ∃ c1 c2, cs = c1 ++ c2 ∧ RepC F w a p.1 c1 ∧ RepC F w b p.2 c2
  | .unit, _, cs => cs = []
  | .opq, _, _ => False
abbrev Bd := Nat → Option Value
def RepPtr (β : Bd) (H : Heap) (h i off : Nat) (v : Value) : Prop :=
  match H[h]? with
  | none => False
  | some .dead => v.oneCell' = true
  | some (.row _ _ t xs) => (t.isMp = false ∧ i < xs.length) ∧ ∃ g o n c, β h = some (.slice (some ⟨g, o, none⟩) n c) ∧ v = .pointer (some ⟨g, o + i * t.size + off, none⟩)
  | some (.box _ _) => i = 0 ∧ ∃ g, β h = some (.pointer (some ⟨g, 0, none⟩)) ∧ v = .pointer (some ⟨g, off, none⟩)
  | some (.iter ..) => False
def RepF (F : Nat → Prop) (w : World) (t : Ty) (x : t.den) (off : Nat) (v : Value) : Prop :=
  ∃ g o cells, v = .pointer (some ⟨g, o + off, none⟩) ∧ F g ∧ RepC F w t x cells ∧ w.rangeAt g o cells
def RepP (F : Nat → Prop) (w : World) (β : Bd) (H : Heap) : PV → Value → Prop
  | .val t x, v => RepC F w t x [v]
  | .agg t x, v => ∃ vs, v = .agg vs ∧ RepC F w t x vs.toList
  | .fptr t x off, v => RepF F w t x off v
  | .ptr h i off, v => RepPtr β H h i off v
inductive All2 {α β : Type} (R : α → β → Prop) : List α → List β → Prop where
  | nil : All2 R [] []
  | cons {a b l m} : R a b → All2 R l m → All2 R (a :: l) (b :: m)
/-- How much room a part of a row of one's own has. -/
def SubCap (b : Option Value) (size : Nat) (A : Option Addr) (l c : Nat) : Prop :=
  (l = 0 ∧ A = none ∧ c = 0) ∨ ∃ g p q n k, b = some (.slice (some ⟨g, p, none⟩) n k) ∧ A = some ⟨g, q, none⟩ ∧ q + c * size ≤ p + k * size ∧ c ≤ k
def RepV (F : Nat → Prop) (w : World) (β : Bd) (H : Heap) : CV → Value → Prop
  | .undef, v => v.oneCell' = true
  | .nils, v => v = .slice none 0 0
  | .int k n, v => v = .int k n
  | .bool b, v => v = .bool b
  | .str s, v => v = .string s
  | .vsl t xs, v => RepC F w (.sl t) xs [v]
  | .own .., _ => False
  | .ref h, v => match H[h]? with
    | none => False
    | some .dead => v.oneCell' = true
    | some (.row ..) => β h = some v ∧ v.oneCell' = true
    | some (.box ..) => False
    | some (.iter ..) => β h = some v ∧ v.oneCell' = true
  | .sub h o l, v => match H[h]? with
    | none => False
    | some .dead => v.oneCell' = true
    | some (.row lv _ t xs) => (t.isMp = false ∧ o + l ≤ xs.length) ∧ ∃ A c, v = .slice A l c ∧ l ≤ c ∧ (l = 0 ∨ ∃ g p n k, β h = some (.slice (some ⟨g, p, none⟩) n k) ∧ A = some ⟨g, p + o * t.size, none⟩) ∧ (lv = true → SubCap (β h) t.size A l c)
    | some (.box ..) => False
    | some (.iter ..) => False
  | .ptr h i off, v => RepPtr β H h i off v
  | .fptr t x off, v => RepF F w t x off v
  | .fn f a b, v => ∃ va vb, v = .func (.func f) va vb ∧ All2 (RepP F w β H) a va.toList ∧ All2 (RepP F w β H) b vb.toList
def RepA (F : Nat → Prop) (w : World) (β : Bd) (H : Heap) : AV → Value → Prop
  | .undef, _ => True
  | .one c, v => RepV F w β H c v
  | .agg cs, v => ∃ vs, v = .agg vs ∧ All2 (RepV F w β H) cs vs.toList
  | .tup us, v => ∃ vs, v = .tuple vs ∧ All2 (fun u v => match u with
      | (true, cs) => ∃ ws, v = .agg ws ∧ All2 (RepV F w β H) cs ws.toList
      | (false, cs) => ∃ c, cs = [c] ∧ RepV F w β H c v) us vs.toList
def blk : Value → Option Nat
  | .slice (some a) _ _ => some a.block
  | .map r => r
  | .pointer (some a) => some a.block
  | _ => none
/-- What a function may write: what it makes, and what it is lent. -/
abbrev Bs (L : Nat → Prop) (w0 : World) : Nat → Prop := fun g => w0.heap.size ≤ g ∨ L g
/-- What was there stays, but what is lent. -/
structure BelowL (L : Nat → Prop) (w w' : World) : Prop where
  os : w'.os = w.os
  tape : w'.tape = w.tape
  output : w'.output = w.output
  size : w.heap.size ≤ w'.heap.size
  block : ∀ k, k < w.heap.size → ¬ L k → w'.heap[k]? = w.heap[k]?
theorem BelowL.refl (L : Nat → Prop) (w : World) : BelowL L w w := ⟨rfl, rfl, rfl, Nat.le_refl _, fun _ _ _ => rfl⟩
theorem BelowL.trans {L : Nat → Prop} {a b c : World} (h : BelowL L a b) (k : Below b.heap.size b c) : BelowL L a c :=
  ⟨k.os.trans h.os, k.tape.trans h.tape, k.output.trans h.output, Nat.le_trans h.size k.size, fun i hi hl => (k.block i (Nat.lt_of_lt_of_le hi h.size)).trans (h.block i hi hl)⟩
theorem BelowL.write {L : Nat → Prop} {a b c : World} (h : BelowL L a b) (h1 : c.os = b.os) (h2 : c.tape = b.tape) (h3 : c.output = b.output) (h4 : b.heap.size ≤ c.heap.size) (h5 : ∀ k, k < b.heap.size → ¬ Bs L a k → c.heap[k]? = b.heap[k]?) : BelowL L a c :=
  ⟨h1.trans h.os, h2.trans h.tape, h3.trans h.output, Nat.le_trans h.size h4, fun i hi hl => (h5 i (Nat.lt_of_lt_of_le hi h.size) (fun h => h.elim (fun h => absurd hi (Nat.not_lt.2 h)) hl)).trans (h.block i hi hl)⟩
/-- A value of a type, in one piece. -/
def ValR (F : Nat → Prop) (w : World) (v : Ty) (x : Value) (y : v.den) : Prop := match v.isAgg with
  | true => ∃ a, x = .agg a ∧ RepC F w v y a.toList
  | false => RepC F w v y [x]
def EntR (F : Nat → Prop) (w : World) (k : IntKind) (v : Ty) (e : MapEntry) (x : Unit × Int × v.den) : Prop := e.key = .int k x.2.1 ∧ ValR F w v e.val x.2.2
def MapR (F : Nat → Prop) (w : World) (k : IntKind) (v : Ty) (arr : Array MapEntry) (xs : List (Unit × Int × v.den)) : Prop :=
  (∀ (i : Nat) (e : MapEntry), arr[i]? = some e → e.born = i) ∧ All2 (EntR F w k v) arr.toList xs
/-- A range over a map that stays. -/
def IterR (base F : Nat → Prop) (w : World) (k : IntKind) (v : Ty) (es : List (Unit × Int × v.den)) (seen : List Nat) (u : Value) : Prop :=
  ∃ gi g arr, u = .pointer (some ⟨gi, 0, none⟩) ∧ base gi ∧ ¬ F gi ∧ w.heap[gi]? = some (.mapIter (some g) arr.size seen.toArray arr.size) ∧ F g ∧ w.heap[g]? = some (.map arr arr.size) ∧ MapR F w k v arr es ∧ ∀ i ∈ seen, i < arr.size
def SlotOk (base : Nat → Prop) (F : Nat → Prop) (w : World) (β : Bd) (H : Heap) : Slot → Value → Prop
  | .dead, _ => True
  | .row true e t xs, u => (∃ cells, OwnsT t w e u xs.length cells ∧ RowC (RepC F w t) t.size xs cells) ∧ ∀ g, blk u = some g → base g ∧ ¬ F g
  | .row false e t xs, u => RepC F w (.sl t) xs [u]
  | .box t cs, u => ∃ g arr e, u = .pointer (some ⟨g, 0, none⟩) ∧ base g ∧ w.heap[g]? = some (.cells arr e (0, 0)) ∧ All2 (RepV F w β H) cs arr.toList ∧ ¬ F g
  | .iter k v es seen, u => IterR base F w k v es seen u
def Slot.isLive : Slot → Bool
  | .row l _ _ _ => l | .box .. => true | .dead => false | .iter .. => true
structure Good (L : Nat → Prop) (w0 w : World) (F0 F : Nat → Prop) (β : Bd) (H : Heap) : Prop where
  below : BelowL L w0 w
  fsz : ∀ g, F g → g < w.heap.size
  f0 : ∀ g, F g → ¬ Bs L w0 g → F0 g
  f1 : ∀ g, F0 g → F g
  dom : ∀ h u, β h = some u → ∃ s, H[h]? = some s ∧ SlotOk (Bs L w0) F w β H s u
  sep : ∀ (h h' : Nat) (s s' : Slot) (u u' : Value) (g : Nat), H[h]? = some s → H[h']? = some s' → s.isLive = true → s'.isLive = true → β h = some u → β h' = some u' → blk u = some g → blk u' = some g → h = h'

/-! ### Lists side by side -/
section
variable {α β γ : Type} {R S : α → β → Prop}
theorem All2.mono (h : ∀ a b, R a b → S a b) : ∀ {l m}, All2 R l m → All2 S l m
  | _, _, .nil => .nil
  | _, _, .cons a b => .cons (h _ _ a) (b.mono h)
theorem All2.length : ∀ {l m}, All2 R l m → l.length = m.length
  | _, _, .nil => rfl
  | _, _, .cons _ b => by simp [b.length]
theorem All2.append {l₁ l₂ : List α} {m₁ m₂ : List β} (h : All2 R l₁ m₁) (k : All2 R l₂ m₂) : All2 R (l₁ ++ l₂) (m₁ ++ m₂) := by
  induction h with
  | nil => exact k
  | cons a _ ih => exact .cons a ih
theorem All2.split {l₁ l₂ : List α} : ∀ {m : List β}, All2 R (l₁ ++ l₂) m → ∃ m₁ m₂, m = m₁ ++ m₂ ∧ All2 R l₁ m₁ ∧ All2 R l₂ m₂ := by
  induction l₁ with
  | nil => exact fun h => ⟨[], _, rfl, .nil, h⟩
  | cons a l ih =>
    intro m h
    cases h with
    | cons r h =>
      obtain ⟨m₁, m₂, rfl, h1, h2⟩ := ih h
      exact ⟨_ :: m₁, m₂, rfl, .cons r h1, h2⟩
theorem All2.get : ∀ {l : List α} {m : List β}, All2 R l m → ∀ {i : Nat} {a : α}, l[i]? = some a → ∃ b, m[i]? = some b ∧ R a b
  | _, _, .nil, _, _, h => by simp at h
  | _, _, .cons r t, 0, _, h => by simp at h; subst h; exact ⟨_, rfl, r⟩
  | _, _, .cons r t, i + 1, _, h => by simpa using t.get (by simpa using h)
theorem All2.drop : ∀ {l : List α} {m : List β}, All2 R l m → ∀ n, All2 R (l.drop n) (m.drop n)
  | _, _, .nil, _ => by simp; exact .nil
  | _, _, .cons r t, 0 => .cons r t
  | _, _, .cons r t, n + 1 => by simpa using t.drop n
theorem All2.take : ∀ {l : List α} {m : List β}, All2 R l m → ∀ n, All2 R (l.take n) (m.take n)
  | _, _, .nil, _ => by simp; exact .nil
  | _, _, .cons r t, 0 => .nil
  | _, _, .cons r t, n + 1 => by simpa using .cons r (t.take n)
theorem All2.set : ∀ {l : List α} {m : List β}, All2 R l m → ∀ {a b}, R a b → ∀ n, All2 R (l.set n a) (m.set n b)
  | _, _, .nil, _, _, _, _ => by simp; exact .nil
  | _, _, .cons r t, _, _, h, 0 => .cons h t
  | _, _, .cons r t, _, _, h, n + 1 => by simpa using .cons r (t.set h n)
theorem All2.getR : ∀ {l : List α} {m : List β}, All2 R l m → ∀ {i : Nat} {b : β}, m[i]? = some b → ∃ a, l[i]? = some a ∧ R a b
  | _, _, .nil, _, _, h => by simp at h
  | _, _, .cons r t, 0, _, h => by simp at h; subst h; exact ⟨_, rfl, r⟩
  | _, _, .cons r t, i + 1, _, h => by simpa using t.getR (by simpa using h)
theorem All2.of_get {l : List α} : ∀ {m : List β}, l.length = m.length → (∀ (i : Nat) (a : α) (b : β), l[i]? = some a → m[i]? = some b → R a b) → All2 R l m := by
  induction l with
  | nil => intro m h _; cases m with | nil => exact .nil | cons => simp at h
  | cons a l ih =>
    intro m h k
    cases m with
    | nil => simp at h
    | cons b m => exact .cons (k 0 a b rfl rfl) (ih (by simpa using h) fun i a b h1 h2 => k (i + 1) a b (by simpa using h1) (by simpa using h2))
end

/-! ### What stays -/
section
variable {F F' : Nat → Prop} {w w' : World} {β β' : Bd} {H H' : Heap}
theorem RowC.mono {α : Type} {R S : α → List Value → Prop} {n : Nat} {xs : List α} {cells : List Value} (h : ∀ x cs, R x cs → S x cs) (k : RowC R n xs cells) : RowC S n xs cells :=
  ⟨k.1, fun i x hx => h _ _ (k.2 i x hx)⟩
theorem range_of_block {g o : Nat} {cells : List Value} (h : w'.heap[g]? = w.heap[g]?) (k : w.rangeAt g o cells) : w'.rangeAt g o cells :=
  fun j v hv => (World.cell?_of_block (w := w) (w' := w') (a := ⟨g, o + j, none⟩) h).trans (k j v hv)
theorem lies_of_block {t : Ty} {g o : Nat} {cells : List Value} (h : w'.heap[g]? = w.heap[g]?) (k : Lies t w g o cells) : Lies t w' g o cells := by
  unfold Lies at k ⊢
  cases hm : t.isMp with
  | true =>
    simp only [hm] at k ⊢
    obtain ⟨arr, k1, k2⟩ := k
    exact ⟨arr, h.trans k1, k2⟩
  | false =>
    simp only [hm] at k ⊢
    exact range_of_block h k
theorem RepC.mono (hF : ∀ g, F g → F' g) (hw : ∀ g, F g → w'.heap[g]? = w.heap[g]?) : ∀ {t : Ty} {x : t.den} {cs : List Value}, RepC F w t x cs → RepC F' w' t x cs
  | .int _, _, _, h => h
  | .bool, _, _, h => h
  | .str, _, _, h => h
  | .sl t, xs, cs, ⟨A, cap, h1, h2, h3⟩ => ⟨A, cap, h1, h2, h3.imp id fun ⟨g, o, cells, a, b, c, d⟩ => ⟨g, o, cells, a, hF _ b, c.mono fun _ _ h => RepC.mono hF hw h, lies_of_block (hw g b) d⟩⟩
  | .pair a b, _, _, ⟨c1, c2, h1, h2, h3⟩ => ⟨c1, c2, h1, RepC.mono hF hw h2, RepC.mono hF hw h3⟩
  | .unit, _, _, h => h
  | .opq, _, _, h => h.elim
theorem RepC.len : ∀ {t : Ty} {x : t.den} {cs : List Value}, RepC F w t x cs → cs.length = t.size
  | .int _, _, _, h => by rw [show _ = _ from h]; rfl
  | .bool, _, _, h => by rw [show _ = _ from h]; rfl
  | .str, _, _, h => by rw [show _ = _ from h]; rfl
  | .sl t, xs, cs, ⟨A, cap, h1, _⟩ => by rw [h1]; rfl
  | .pair a b, _, _, ⟨c1, c2, h1, h2, h3⟩ => by rw [h1, List.length_append, h2.len, h3.len]; rfl
  | .unit, _, _, h => by rw [show _ = _ from h]; rfl
  | .opq, _, _, h => h.elim
theorem RepC.one : ∀ {t : Ty} {x : t.den} {cs : List Value}, RepC F w t x cs → ∀ u ∈ cs, u.oneCell' = true
  | .int _, _, _, h, u, hu => by rw [show _ = _ from h] at hu; simp at hu; subst hu; rfl
  | .bool, _, _, h, u, hu => by rw [show _ = _ from h] at hu; simp at hu; subst hu; rfl
  | .str, _, _, h, u, hu => by rw [show _ = _ from h] at hu; simp at hu; subst hu; rfl
  | .sl t, xs, cs, ⟨A, cap, h1, _⟩, u, hu => by rw [h1] at hu; simp at hu; subst hu; exact hdr_one ..
  | .pair a b, _, _, ⟨c1, c2, h1, h2, h3⟩, u, hu => by
    rw [h1] at hu
    rcases List.mem_append.1 hu with hu | hu
    · exact h2.one u hu
    · exact h3.one u hu
  | .unit, _, _, h, u, hu => by rw [show _ = _ from h] at hu; simp at hu
  | .opq, _, _, h, _, _ => h.elim
theorem ValR.mono (hF : ∀ g, F g → F' g) (hw : ∀ g, F g → w'.heap[g]? = w.heap[g]?) {v : Ty} {x : Value} {y : v.den} (h : ValR F w v x y) : ValR F' w' v x y := by
  unfold ValR at h ⊢
  cases hv : v.isAgg with
  | true =>
    simp only [hv] at h ⊢
    obtain ⟨a, h1, h2⟩ := h
    exact ⟨a, h1, h2.mono hF hw⟩
  | false =>
    simp only [hv] at h ⊢
    exact h.mono hF hw
theorem MapR.mono (hF : ∀ g, F g → F' g) (hw : ∀ g, F g → w'.heap[g]? = w.heap[g]?) {k : IntKind} {v : Ty} {arr : Array MapEntry} {xs : List (Unit × Int × v.den)} (h : MapR F w k v arr xs) : MapR F' w' k v arr xs :=
  ⟨h.1, h.2.mono fun e x hx => ⟨hx.1, hx.2.mono hF hw⟩⟩
theorem IterR.base {b base : Nat → Prop} (hB : ∀ g, b g → base g) {k : IntKind} {v : Ty} {es : List (Unit × Int × v.den)} {seen : List Nat} {u : Value} (h : IterR b F w k v es seen u) : IterR base F w k v es seen u := by
  obtain ⟨gi, g, arr, h1, h2, h3⟩ := h
  exact ⟨gi, g, arr, h1, hB _ h2, h3⟩
theorem IterR.mono {base : Nat → Prop} (hF : ∀ g, F g → F' g) (hw : ∀ g, F g → w'.heap[g]? = w.heap[g]?) {k : IntKind} {v : Ty} {es : List (Unit × Int × v.den)} {seen : List Nat} {u : Value} (h : IterR base F w k v es seen u) (hb : ∀ g, blk u = some g → w'.heap[g]? = w.heap[g]? ∧ (¬ F g → ¬ F' g)) : IterR base F' w' k v es seen u := by
  obtain ⟨gi, g, arr, h1, h2, h3, h4, h5, h6, h7, h8⟩ := h
  have hg := hb gi (by rw [h1]; rfl)
  exact ⟨gi, g, arr, h1, h2, hg.2 h3, hg.1.trans h4, hF _ h5, (hw _ h5).trans h6, h7.mono hF hw, h8⟩
theorem RepF.mono (hF : ∀ g, F g → F' g) (hw : ∀ g, F g → w'.heap[g]? = w.heap[g]?) {t : Ty} {x : t.den} {off : Nat} {v : Value} : RepF F w t x off v → RepF F' w' t x off v
  | ⟨g, o, cells, a, b, c, d⟩ => ⟨g, o, cells, a, hF _ b, c.mono hF hw, range_of_block (hw g b) d⟩
/-- A slot as before, or gone. -/
def Like : Slot → Slot → Prop
  | _, .dead => True
  | .row lv _ t xs, .row lv' _ t' xs' => ∃ h : t = t', (t.isMp = false → xs'.length = xs.length) ∧ (lv' = true → lv = true)
  | .box .., .box .. => True
  | .iter k v .., .iter k' v' .. => True
  | _, _ => False
structure Keeps (F F' : Nat → Prop) (w w' : World) (β β' : Bd) (H H' : Heap) : Prop where
  f : ∀ g, F g → F' g
  w : ∀ g, F g → w'.heap[g]? = w.heap[g]?
  b : ∀ h u, β h = some u → β' h = some u
  h : ∀ (h : Nat) (s : Slot), H[h]? = some s → ∃ s', H'[h]? = some s' ∧ Like s s'
theorem RepPtr.one {h i off : Nat} {v : Value} (r : RepPtr β H h i off v) : v.oneCell' = true := by
  unfold RepPtr at r
  split at r
  · exact r.elim
  · exact r
  · obtain ⟨_, g, o, n, c, _, rfl⟩ := r; rfl
  · obtain ⟨_, g, _, rfl⟩ := r; rfl
  · exact r.elim
theorem RepF.one {t : Ty} {x : t.den} {off : Nat} {v : Value} (r : RepF F w t x off v) : v.oneCell' = true := by
  obtain ⟨g, o, cells, rfl, _⟩ := r; rfl
theorem RepV.one : ∀ {c : CV} {v : Value}, RepV F w β H c v → v.oneCell' = true
  | .undef, _, h => h
  | .nils, _, h => by rw [show _ = _ from h]; rfl
  | .int .., _, h => by rw [show _ = _ from h]; rfl
  | .bool _, _, h => by rw [show _ = _ from h]; rfl
  | .str _, _, h => by rw [show _ = _ from h]; rfl
  | .vsl t xs, v, h => RepC.one (t := .sl t) h v (by simp)
  | .own .., _, h => h.elim
  | .ptr .., _, h => RepPtr.one h
  | .fptr .., _, h => RepF.one h
  | .fn .., _, ⟨_, _, h, _⟩ => by rw [h]; rfl
  | .sub h o l, v, r => by
    simp only [RepV] at r
    split at r
    · exact r.elim
    · exact r
    · obtain ⟨_, A, c, rfl, _⟩ := r; rfl
    · exact r.elim
    · exact r.elim
  | .ref h, v, r => by
    simp only [RepV] at r
    split at r
    · exact r.elim
    · exact r
    · exact r.2
    · exact r.elim
    · exact r.2
theorem RepPtr.mono (k : Keeps F F' w w' β β' H H') {h i off : Nat} {v : Value} (r : RepPtr β H h i off v) : RepPtr β' H' h i off v := by
  have one := r.one
  unfold RepPtr at r ⊢
  split at r
  · exact r.elim
  · rename_i hs
    obtain ⟨s', h1, h2⟩ := k.h _ _ hs
    rw [h1]
    cases s' with
    | dead => exact r
    | row => exact h2.elim
    | box => exact h2.elim
    | iter => exact h2.elim
  · rename_i hs
    obtain ⟨s', h1, h2⟩ := k.h _ _ hs
    rw [h1]
    cases s' with
    | dead => exact one
    | row =>
      obtain ⟨ht, hl⟩ := h2
      subst ht
      obtain ⟨hi, g, o, n, c, hb, hv⟩ := r
      exact ⟨⟨hi.1, by rw [hl.1 hi.1]; exact hi.2⟩, g, o, n, c, k.b _ _ hb, hv⟩
    | box => exact h2.elim
    | iter => exact h2.elim
  · rename_i hs
    obtain ⟨s', h1, h2⟩ := k.h _ _ hs
    rw [h1]
    cases s' with
    | dead => exact one
    | row => exact h2.elim
    | box =>
      obtain ⟨hi, g, hb, hv⟩ := r
      exact ⟨hi, g, k.b _ _ hb, hv⟩
    | iter => exact h2.elim
  · exact r.elim
theorem RepP.mono (k : Keeps F F' w w' β β' H H') : ∀ {p : PV} {v : Value}, RepP F w β H p v → RepP F' w' β' H' p v
  | .val .., _, h => RepC.mono k.f k.w h
  | .agg .., _, ⟨vs, e, h⟩ => ⟨vs, e, RepC.mono k.f k.w h⟩
  | .fptr .., _, h => RepF.mono k.f k.w h
  | .ptr .., _, h => RepPtr.mono k h
theorem RepV.mono (k : Keeps F F' w w' β β' H H') : ∀ {c : CV} {v : Value}, RepV F w β H c v → RepV F' w' β' H' c v
  | .undef, _, h => h
  | .nils, _, h => h
  | .int .., _, h => h
  | .bool _, _, h => h
  | .str _, _, h => h
  | .vsl t xs, v, h => RepC.mono (t := .sl t) k.f k.w h
  | .own .., _, h => h.elim
  | .ptr .., _, h => RepPtr.mono k h
  | .fptr .., _, h => RepF.mono k.f k.w h
  | .fn .., _, ⟨va, vb, h, ha, hb⟩ => ⟨va, vb, h, ha.mono fun _ _ => RepP.mono k, hb.mono fun _ _ => RepP.mono k⟩
  | .ref h, v, r => by
    have one := r.one
    simp only [RepV] at r ⊢
    split at r
    · exact r.elim
    · rename_i hs
      obtain ⟨s', h1, h2⟩ := k.h _ _ hs
      rw [h1]
      cases s' with
      | dead => exact r
      | row => exact h2.elim
      | box => exact h2.elim
      | iter => exact h2.elim
    · rename_i hs
      obtain ⟨s', h1, h2⟩ := k.h _ _ hs
      rw [h1]
      cases s' with
      | dead => exact one
      | row => exact ⟨k.b _ _ r.1, one⟩
      | box => exact h2.elim
      | iter => exact h2.elim
    · exact r.elim
    · rename_i hs
      obtain ⟨s', h1, h2⟩ := k.h _ _ hs
      rw [h1]
      cases s' with
      | dead => exact one
      | row => exact h2.elim
      | box => exact h2.elim
      | iter => exact ⟨k.b _ _ r.1, one⟩
  | .sub h o l, v, r => by
    have one := r.one
    simp only [RepV] at r ⊢
    split at r
    · exact r.elim
    · rename_i hs
      obtain ⟨s', h1, h2⟩ := k.h _ _ hs
      rw [h1]
      cases s' with
      | dead => exact r
      | row => exact h2.elim
      | box => exact h2.elim
      | iter => exact h2.elim
    · rename_i hs
      obtain ⟨s', h1, h2⟩ := k.h _ _ hs
      rw [h1]
      cases s' with
      | dead => exact one
      | row =>
        obtain ⟨ht, hl⟩ := h2
        subst ht
        obtain ⟨hi, A, c, hv, hc, hb, hcap⟩ := r
        exact ⟨⟨hi.1, by rw [hl.1 hi.1]; exact hi.2⟩, A, c, hv, hc, hb.imp id fun ⟨g, p, n, q, e1, e2⟩ => ⟨g, p, n, q, k.b _ _ e1, e2⟩, fun e => (hcap (hl.2 e)).imp id fun ⟨g, p, q, n, kk, e1, e2⟩ => ⟨g, p, q, n, kk, k.b _ _ e1, e2⟩⟩
      | box => exact h2.elim
      | iter => exact h2.elim
    · exact r.elim
    · exact r.elim
theorem RepA.mono (k : Keeps F F' w w' β β' H H') : ∀ {c : AV} {v : Value}, RepA F w β H c v → RepA F' w' β' H' c v
  | .undef, _, h => h
  | .one _, _, h => RepV.mono k h
  | .agg _, _, ⟨vs, h, h2⟩ => ⟨vs, h, h2.mono fun _ _ => RepV.mono k⟩
  | .tup _, _, ⟨vs, h, h2⟩ => ⟨vs, h, h2.mono fun u v => by
      rcases u with ⟨b, cs⟩
      cases b with
      | true => exact fun ⟨ws, e, r⟩ => ⟨ws, e, r.mono fun _ _ => RepV.mono k⟩
      | false => exact fun ⟨c, e, r⟩ => ⟨c, e, RepV.mono k r⟩⟩

/-! ### Values and their cells -/
theorem rep_flat : ∀ {t : Ty} {x : t.den} {cs : List Value}, RepC F w t x cs → All2 (RepV F w β H) (flat t x) cs
  | .int _, _, _, h => by rw [show _ = _ from h]; exact .cons rfl .nil
  | .bool, _, _, h => by rw [show _ = _ from h]; exact .cons rfl .nil
  | .str, _, _, h => by rw [show _ = _ from h]; exact .cons rfl .nil
  | .sl t, xs, cs, h => by
    obtain ⟨A, cap, h1, h2⟩ := h
    subst h1
    exact .cons (show RepC F w (.sl t) xs _ from ⟨A, cap, rfl, h2⟩) .nil
  | .pair a b, p, _, ⟨c1, c2, h1, h2, h3⟩ => by rw [h1]; exact (rep_flat h2).append (rep_flat h3)
  | .unit, _, _, h => by rw [show _ = _ from h]; exact .nil
  | .opq, _, _, h => h.elim
theorem rep_unflat : ∀ {t : Ty} {us : List CV} {x : t.den} {r : List CV} {vs : List Value}, unflat t us = some (x, r) → All2 (RepV F w β H) us vs → ∃ v1 v2, vs = v1 ++ v2 ∧ RepC F w t x v1 ∧ All2 (RepV F w β H) r v2
  | .int k, us, x, r, vs, h, a => by
    cases a with
    | nil => simp [unflat] at h
    | @cons c v _ m hr ht =>
      cases c <;> simp [unflat] at h
      obtain ⟨rfl, rfl, rfl⟩ := h
      exact ⟨[v], m, rfl, by rw [show v = _ from hr]; rfl, ht⟩
  | .bool, us, x, r, vs, h, a => by
    cases a with
    | nil => simp [unflat] at h
    | @cons c v _ m hr ht =>
      cases c <;> simp [unflat] at h
      obtain ⟨rfl, rfl⟩ := h
      exact ⟨[v], m, rfl, by rw [show v = _ from hr]; rfl, ht⟩
  | .str, us, x, r, vs, h, a => by
    cases a with
    | nil => simp [unflat] at h
    | @cons c v _ m hr ht =>
      cases c <;> simp [unflat] at h
      obtain ⟨rfl, rfl⟩ := h
      exact ⟨[v], m, rfl, by rw [show v = _ from hr]; rfl, ht⟩
  | .sl t, us, x, r, vs, h, a => by
    cases a with
    | nil => simp [unflat] at h
    | @cons c v _ m hr ht =>
      cases c <;> simp only [unflat, reduceCtorEq] at h
      split at h
      · rename_i he
        subst he
        simp at h
        obtain ⟨rfl, rfl⟩ := h
        exact ⟨[v], m, rfl, hr, ht⟩
      · simp at h
  | .pair p q, us, x, r, vs, h, a => by
    simp only [unflat, Option.bind_eq_some_iff] at h
    obtain ⟨y, h1, z, h2, h3⟩ := h
    simp at h3
    obtain ⟨rfl, rfl⟩ := h3
    obtain ⟨v1, v2, rfl, r1, r2⟩ := rep_unflat (x := y.1) (r := y.2) h1 a
    obtain ⟨v3, v4, rfl, r3, r4⟩ := rep_unflat (x := z.1) (r := z.2) h2 r2
    exact ⟨v1 ++ v3, v4, by simp, ⟨v1, v3, rfl, r1, r3⟩, r4⟩
  | .unit, us, x, r, vs, h, a => by
    simp [unflat] at h
    subst h
    exact ⟨[], vs, rfl, rfl, a⟩
  | .opq, us, x, r, vs, h, a => by simp [unflat] at h
theorem rep_unflat1 {t : Ty} {us : List CV} {x : t.den} {vs : List Value} (h : unflat1 t us = some x) (a : All2 (RepV F w β H) us vs) : RepC F w t x vs := by
  simp only [unflat1, Option.bind_eq_some_iff] at h
  obtain ⟨p, h1, h2⟩ := h
  obtain ⟨v1, v2, rfl, r1, r2⟩ := rep_unflat (x := p.1) (r := p.2) h1 a
  split at h2
  · rename_i hp
    rw [hp] at r2
    cases r2
    simp at h2
    subst h2
    simpa using r1
  · simp at h2
/-! ### Rows -/
theorem RowC.get {α : Type} {R : α → List Value → Prop} {n : Nat} {xs : List α} {cells : List Value} (k : RowC R n xs cells) {i : Nat} {x : α} (h : xs[i]? = some x) : R x ((cells.drop (i * n)).take n) := k.2 i x h
theorem RowC.append {α : Type} {R : α → List Value → Prop} {n : Nat} {xs ys : List α} {c d : List Value} (k : RowC R n xs c) (l : RowC R n ys d) : RowC R n (xs ++ ys) (c ++ d) := by
  refine ⟨by rw [List.length_append, List.length_append, k.1, l.1, Nat.add_mul], fun i x h => ?_⟩
  by_cases hi : i < xs.length
  · rw [List.getElem?_append_left hi] at h
    have h1 := k.2 i x h
    have hle : i * n + n ≤ c.length := by rw [k.1]; have := Nat.mul_le_mul_right n (show i + 1 ≤ xs.length from hi); rw [Nat.add_mul] at this; omega
    rw [List.drop_append_of_le_length (by omega), List.take_append_of_le_length (by rw [List.length_drop]; omega)]
    exact h1
  · rw [List.getElem?_append_right (by omega)] at h
    have h1 := l.2 _ x h
    have e : (c ++ d).drop (i * n) = d.drop ((i - xs.length) * n) := by
      have h2 : i * n = c.length + (i - xs.length) * n := by rw [k.1, ← Nat.add_mul]; congr 1; omega
      rw [h2, List.drop_append, List.drop_of_length_le (by omega)]
      simp
    rw [e]
    exact h1
theorem RowC.sub {α : Type} {R : α → List Value → Prop} {n : Nat} {xs : List α} {c : List Value} (k : RowC R n xs c) (o l : Nat) : RowC R n ((xs.drop o).take l) ((c.drop (o * n)).take (l * n)) := by
  refine ⟨?_, fun i x h => ?_⟩
  · rw [List.length_take, List.length_take, List.length_drop, List.length_drop, k.1, ← Nat.sub_mul]
    rcases Nat.le_total l (xs.length - o) with h | h
    · rw [Nat.min_eq_left h, Nat.min_eq_left (Nat.mul_le_mul_right n h)]
    · rw [Nat.min_eq_right h, Nat.min_eq_right (Nat.mul_le_mul_right n h)]
  · have hi : i < l := by
      have := (List.getElem?_eq_some_iff.1 h).1
      rw [List.length_take] at this
      omega
    rw [List.getElem?_take_of_lt hi, List.getElem?_drop] at h
    have h1 := k.2 _ x h
    have e : (((c.drop (o * n)).take (l * n)).drop (i * n)).take n = (c.drop ((o + i) * n)).take n := by
      have h2 : i * n + n ≤ l * n := by have := Nat.mul_le_mul_right n (show i + 1 ≤ l from hi); rw [Nat.add_mul] at this; omega
      rw [List.drop_take, List.take_take, List.drop_drop, Nat.min_eq_left (by omega), Nat.add_mul]
    rw [e]
    exact h1
theorem RowC.set {α : Type} {R : α → List Value → Prop} {n : Nat} {xs : List α} {c : List Value} (k : RowC R n xs c) {i : Nat} {y : α} {d : List Value} (hi : i < xs.length) (hd : d.length = n) (r : R y d) :
    RowC R n (xs.set i y) (c.take (i * n) ++ d ++ c.drop (i * n + n)) := by
  have hle : i * n + n ≤ c.length := by rw [k.1]; have := Nat.mul_le_mul_right n (show i + 1 ≤ xs.length from hi); rw [Nat.add_mul] at this; omega
  refine ⟨by rw [List.length_append, List.length_append, List.length_take, List.length_drop, hd, List.length_set, Nat.min_eq_left (by omega)]; have := k.1; omega, fun j x h => ?_⟩
  by_cases hj : j = i
  · subst hj
    rw [List.getElem?_set_self hi] at h
    simp at h
    subst h
    rw [List.append_assoc, List.drop_append, List.length_take, Nat.min_eq_left (by omega), Nat.sub_self, List.drop_of_length_le (by rw [List.length_take]; omega)]
    simp [hd]
    exact r
  · rw [List.getElem?_set_ne (by omega)] at h
    have h1 := k.2 j x h
    have hjl : j < xs.length := (List.getElem?_eq_some_iff.1 h).1
    have e : ((c.take (i * n) ++ d ++ c.drop (i * n + n)).drop (j * n)).take n = (c.drop (j * n)).take n := by
      rcases Nat.lt_or_gt_of_ne hj with hlt | hlt
      · have h2 : j * n + n ≤ i * n := by have := Nat.mul_le_mul_right n (show j + 1 ≤ i from hlt); rw [Nat.add_mul] at this; omega
        rw [List.append_assoc, List.drop_append_of_le_length (by rw [List.length_take]; omega), List.take_append_of_le_length (by rw [List.length_drop, List.length_take]; omega), List.drop_take, List.take_take, Nat.min_eq_left (by omega)]
      · have h2 : i * n + n ≤ j * n := by have := Nat.mul_le_mul_right n (show i + 1 ≤ j from hlt); rw [Nat.add_mul] at this; omega
        rw [List.drop_append, List.drop_of_length_le (by simp; omega), List.nil_append, List.drop_drop]
        congr 2
        simp; omega
    rw [e]
    exact h1
end
end Go.Proofs.Ytanpdkllnmeenaa.Am
namespace Go.Proofs.Ytanpdkllnmeenaa.Am
open Go Go.RowKit
set_option linter.unusedVariables false
set_option linter.unusedSectionVars false

structure EOk (P : Program) (e : TypeId) (t : Ty) (i : TypeInfo) (z : Value) : Prop where
  info : P.info? e = some i
  size : i.size = t.size
  bytes : i.bytes ≤ 64
  zero : i.zero = some z
  zsize : z.cells.size = t.size
  rep : ∀ F w, RepC F w t t.dflt z.cells.toList
  pos : 0 < t.size
/-- What a map's type says. -/
structure MOk (P : Program) (kt vt : TypeId) (k : IntKind) (v : Ty) (i : TypeInfo) (z : Value) : Prop where
  key : P.underlying kt = some (.int k)
  info : P.info? vt = some i
  zero : i.zero = some z
  form : match v.isAgg with | true => ∃ a, z = .agg a ∧ ∀ F w, RepC F w v v.dflt a.toList | false => ∀ F w, RepC F w v v.dflt [z]
structure TOk (P : Program) (C : Ctx) (t : TypeId) (T : Ty) (d : TypeDesc) (i : TypeInfo) (z : Value) : Prop where
  und : P.underlying t = some d
  info : P.info? t = some i
  size : i.size = T.size
  row : d.isRow = T.isAgg
  zero : i.zero = some z
  rep : ∀ F w β H, All2 (RepV F w β H) (zeroC T) z.cells.toList
  int : ∀ k, T = .int k → d = .int k
  str : T = .str → d = .string
  bool : T = .bool → d = .bool
  sl : ∀ e, T = .sl e → e.isMp = false → d = .slice (C.el e) ∧ ∃ i z, EOk P (C.el e) e i z
  mp : ∀ k v, T = .sl (.mpe k v) → ∃ kt vt i z, d = .map kt vt ∧ MOk P kt vt k v i z
structure FOk (P : Program) (s : TypeId) (f : Nat) (fl : Fld) (fields : Array Field) (fd : Field) (i : TypeInfo) (d : TypeDesc) (pl : List (Nat × Nat)) : Prop where
  und : P.underlying s = some (.struct fields)
  at_ : fields[f]? = some fd
  off : fd.offset = fl.off
  info : P.info? fd.type = some i
  size : i.size = fl.size
  dund : P.underlying fd.type = some d
  row : d.isRow = fl.agg
  pos : 0 < fl.size
  places : fields.toList.mapM (fun f => (P.info? f.type).map fun i => (f.offset, i.size)) = some pl
  place : pl[f]? = some (fl.off, fl.size)
/-- A struct whose fields are plain, one cell each. -/
def EqFs (P : Program) : List Field → List Ty → Nat → Prop
  | [], [], _ => True
  | f :: r, t :: T, n => f.name ≠ "_" ∧ f.offset = n ∧ (match t with
    | .int _ => ∃ k, P.underlying f.type = some (.int k)
    | .bool => P.underlying f.type = some .bool
    | .str => P.underlying f.type = some .string
    | _ => False) ∧ EqFs P r T (n + 1)
  | _, _, _ => False
structure EqOk (P : Program) (t : TypeId) (T : List Ty) : Prop where
  und : P.underlying t = some (.struct (P.fieldsOf t))
  held : P.stoodInHeld t = false
  guard : P.eqGuardType P.depth t = false
  fields : EqFs P (P.fieldsOf t).toList T 0
/-- An array. -/
structure ArrOk (P : Program) (t : TypeId) (n : Nat) (T : Ty) (e : TypeId) (i ie : TypeInfo) (z : Value) : Prop where
  und : P.underlying t = some (.array n e)
  info : P.info? t = some i
  zero : i.zero = some z
  elem : P.info? e = some ie
  size : ie.size = T.size
  mp : T.isMp = false
  pos : 0 < n
  max : n ≤ 1000000
  zsize : z.cells.size = n * T.size
  rep : ∀ F w, RowC (RepC F w T) T.size (List.replicate n T.dflt) z.cells.toList
structure CtxOk (P : Program) (C : Ctx) : Prop where
  ty : ∀ t T, C.ty t = some T → ∃ d i z, TOk P C t T d i z
  fld : ∀ s f fl, C.fld s f = some fl → ∃ fields fd i d places, FOk P s f fl fields fd i d places
  mixed : P.follows .mixedOrders = true
  eqs : ∀ t T, C.eqs t = some T → EqOk P t T
  nd : ∀ f nf r r', C.nd f = some nf → nf r = some r' → r' = r
  arr : ∀ t n T, C.arr t = some (n, T) → ∃ e i ie z, ArrOk P t n T e i ie z
theorem CtxOk.on {P : Program} {C : Ctx} (h : CtxOk P C) : CtxOk P C.on :=
  ⟨fun t T e => by obtain ⟨d, i, z, k⟩ := h.ty t T e; exact ⟨d, i, z, ⟨k.und, k.info, k.size, k.row, k.zero, k.rep, k.int, k.str, k.bool, k.sl, k.mp⟩⟩, h.fld, h.mixed, h.eqs, h.nd, h.arr⟩

section
variable {P : Program} {C : Ctx} {F : Nat → Prop} {w : World} {β β' : Bd} {H G : Heap}
theorem isRow_eq (d : TypeDesc) : d.isRow = (match d with | .struct _ | .array _ _ => true | _ => false) := by cases d <;> rfl
theorem size_one {T : Ty} (h : T.isAgg = false) : T.size = 1 := by cases T <;> first | rfl | (simp [Ty.isAgg] at h)
theorem zeroC_len : ∀ T : Ty, (zeroC T).length = T.size
  | .int _ | .bool | .str | .unit | .opq => rfl
  | .sl t => by simp only [zeroC]; split <;> rfl
  | .pair a b => by simp [zeroC, Ty.size, zeroC_len a, zeroC_len b]

/-- A constant is what it says. -/
theorem const1 {v : Value} {c : CV} (h : constC v = some c) : RepV F w β G c v := by
  unfold constC at h
  split at h <;> first
    | (injection h with h; subst h; rfl)
    | skip
  · split at h
    · rename_i hh
      injection h with h
      subst h
      simp at hh
      exact ⟨#[], #[], by simp [hh.1, hh.2], .nil, .nil⟩
    · simp at h
  · simp at h
theorem mapM_all2 {α : Type} {γ : Type} {f : γ → Option α} {R : α → γ → Prop} (hf : ∀ a b, f b = some a → R a b) : ∀ {l : List γ} {m : List α}, l.mapM f = some m → All2 R m l
  | [], m, h => by simp at h; subst h; exact .nil
  | b :: l, m, h => by
    simp only [List.mapM_cons, Option.bind_eq_bind, Option.bind_eq_some_iff] at h
    obtain ⟨a, h1, r, h2, h3⟩ := h
    simp at h3
    subst h3
    exact .cons (hf _ _ h1) (mapM_all2 hf h2)
theorem constOk {v : Value} {a : AV} (h : constA v = some a) : RepA F w β G a v := by
  unfold constA at h
  split at h
  · rename_i cs
    simp only [Option.map_eq_some_iff] at h
    obtain ⟨l, h1, rfl⟩ := h
    exact ⟨cs, rfl, mapM_all2 (R := RepV F w β G) (fun a b h => const1 h) h1⟩
  · simp only [Option.map_eq_some_iff] at h
    obtain ⟨c, h1, rfl⟩ := h
    exact const1 h1
/-- What an operand's value is told to be. -/
def OpOk (F : Nat → Prop) (w : World) (β : Bd) (G : Heap) (env : List AV) (a : Act) (x : Operand) : Prop := ∀ v, opr env x = some v → RepA F w β G v (a.eval x)
theorem opr_ok {env : List AV} {a : Act} (x : Operand) (h : ∀ t, x = .tmp t → RepA F w β G (envAt env t) (a.tmps.getD t undef)) : OpOk F w β G env a x := by
  intro v hv
  cases x with
  | tmp t =>
    simp only [opr] at hv
    split at hv
    · simp at hv
    · injection hv with hv
      subst hv
      exact h t rfl
  | const c => exact constOk hv
  | func f => injection hv with hv; subst hv; exact ⟨#[], #[], rfl, .nil, .nil⟩
  | global g => simp [opr] at hv
theorem OpOk.cell {env : List AV} {a : Act} {x : Operand} (h : OpOk F w β G env a x) {c : CV} (hc : oprC env x = some c) : RepV F w β G c (a.eval x) := by
  simp only [oprC, Option.bind_eq_some_iff] at hc
  obtain ⟨v, h1, h2⟩ := hc
  cases v <;> simp [cell1] at h2
  subst h2
  exact h _ h1
theorem cells_ok {v : AV} {cs : List CV} {u : Value} (h : v.cells = some cs) (r : RepA F w β G v u) : All2 (RepV F w β G) cs u.cells.toList := by
  cases v with
  | one c =>
    simp [AV.cells] at h
    subst h
    have h1 := RepV.one r
    have : u.cells = #[u] := by cases u <;> first | rfl | (simp [Value.oneCell'] at h1)
    rw [this]
    exact .cons r .nil
  | agg cs' =>
    simp [AV.cells] at h
    subst h
    obtain ⟨vs, rfl, h2⟩ := r
    exact h2
  | _ => simp [AV.cells] at h
/-- New rows, each of a nil slice. -/
def Nils (sl : List Slot) : Prop := ∀ s ∈ sl, ∃ e t, s = Slot.row true e t [] ∧ t.isMp = false
theorem fixC_nils {el : Ty → TypeId} : ∀ (T : Ty) (cs : List CV) (n : Nat), Nils (fixC el T cs n).2.1
  | .sl t, [], n => fun s hs => by simp [fixC] at hs
  | .sl t, c :: r, n => by
    intro s hs
    cases c <;> simp only [fixC, List.not_mem_nil] at hs
    split at hs
    · simp at hs
    · rename_i hm
      exact ⟨_, _, by simpa using hs, hm⟩
  | .pair a b, cs, n => fun s hs => by
    simp only [fixC, List.mem_append] at hs
    rcases hs with hs | hs
    · exact fixC_nils a _ _ s hs
    · exact fixC_nils b _ _ s hs
  | .unit, cs, n => fun s hs => by simp [fixC] at hs
  | .int _, [], n => fun s hs => by simp [fixC] at hs
  | .int _, _ :: _, n => fun s hs => by simp [fixC] at hs
  | .bool, [], n => fun s hs => by simp [fixC] at hs
  | .bool, _ :: _, n => fun s hs => by simp [fixC] at hs
  | .str, [], n => fun s hs => by simp [fixC] at hs
  | .str, _ :: _, n => fun s hs => by simp [fixC] at hs
  | .opq, [], n => fun s hs => by simp [fixC] at hs
  | .opq, _ :: _, n => fun s hs => by simp [fixC] at hs
/-- The handles from n on are these slots, and bound to nil slices. -/
def AtN (β : Bd) (G : Heap) (n : Nat) (sl : List Slot) : Prop := ∀ j s, sl[j]? = some s → G[n + j]? = some s ∧ β (n + j) = some (.slice none 0 0)
theorem AtN.left {n : Nat} {a b : List Slot} (h : AtN β G n (a ++ b)) : AtN β G n a := fun j s hs => h j s (by rw [List.getElem?_append_left (List.getElem?_eq_some_iff.1 hs).1]; exact hs)
theorem AtN.right {n : Nat} {a b : List Slot} (h : AtN β G n (a ++ b)) : AtN β G (n + a.length) b := fun j s hs => by
  have := h (a.length + j) s (by rw [List.getElem?_append_right (by omega)]; simpa using hs)
  rw [← Nat.add_assoc] at this
  exact this
theorem fixC_ok {el : Ty → TypeId} : ∀ {T : Ty} {cs : List CV} {n : Nat} {vs : List Value}, All2 (RepV F w β G) cs vs → AtN β G n (fixC el T cs n).2.1 →
    ∃ v1 v2, vs = v1 ++ v2 ∧ All2 (RepV F w β G) (fixC el T cs n).1 v1 ∧ All2 (RepV F w β G) (fixC el T cs n).2.2 v2
  | .sl t, _, n, _, .nil, h => ⟨[], [], rfl, .nil, .nil⟩
  | .sl t, _, n, _, @All2.cons _ _ _ c v l m hr ht, h => by
    refine ⟨[v], m, rfl, ?_⟩
    cases c <;> simp only [fixC] at h ⊢ <;> first
      | exact ⟨.cons hr .nil, ht⟩
      | skip
    cases hm : t.isMp with
    | true =>
      simp only [hm] at h ⊢
      exact ⟨.cons (by rw [show v = _ from hr]; rfl) .nil, ht⟩
    | false =>
    simp only [hm] at h ⊢
    refine ⟨.cons ?_ .nil, ht⟩
    obtain ⟨h1, h2⟩ := h 0 _ rfl
    rw [Nat.add_zero] at h1 h2
    simp only [RepV, h1]
    rw [show v = _ from hr]
    exact ⟨h2, rfl⟩
  | .pair a b, cs, n, vs, hr, h => by
    simp only [fixC] at h ⊢
    obtain ⟨v1, v2, rfl, r1, r2⟩ := fixC_ok (T := a) (n := n) hr h.left
    obtain ⟨v3, v4, rfl, r3, r4⟩ := fixC_ok (T := b) (n := n + (fixC el a cs n).2.1.length) r2 h.right
    exact ⟨v1 ++ v3, v4, by simp, r1.append r3, r4⟩
  | .unit, cs, n, vs, hr, h => ⟨[], vs, rfl, .nil, hr⟩
  | .int _, _, n, _, .nil, h => ⟨[], [], rfl, .nil, .nil⟩
  | .int _, _, n, _, .cons hr ht, h => ⟨[_], _, rfl, .cons hr .nil, ht⟩
  | .bool, _, n, _, .nil, h => ⟨[], [], rfl, .nil, .nil⟩
  | .bool, _, n, _, .cons hr ht, h => ⟨[_], _, rfl, .cons hr .nil, ht⟩
  | .str, _, n, _, .nil, h => ⟨[], [], rfl, .nil, .nil⟩
  | .str, _, n, _, .cons hr ht, h => ⟨[_], _, rfl, .cons hr .nil, ht⟩
  | .opq, _, n, _, .nil, h => ⟨[], [], rfl, .nil, .nil⟩
  | .opq, _, n, _, .cons hr ht, h => ⟨[_], _, rfl, .cons hr .nil, ht⟩
theorem fixC_len {el : Ty → TypeId} : ∀ (T : Ty) (cs : List CV) (n : Nat), T.size ≤ cs.length → (fixC el T cs n).1.length = T.size ∧ (fixC el T cs n).2.2.length = cs.length - T.size
  | .sl t, [], n, h => by simp [Ty.size] at h
  | .sl t, c :: r, n, h => by cases c <;> simp [fixC, Ty.size] <;> split <;> simp
  | .pair a b, cs, n, h => by
    simp only [Ty.size] at h
    have h1 := fixC_len (el := el) a cs n (by omega)
    have h2 := fixC_len (el := el) b (fixC el a cs n).2.2 (n + (fixC el a cs n).2.1.length) (by omega)
    simp only [fixC, Ty.size, List.length_append]
    omega
  | .unit, cs, n, h => by simp [fixC, Ty.size]
  | .int _, c :: r, n, h => by simp [fixC, Ty.size]
  | .bool, c :: r, n, h => by simp [fixC, Ty.size]
  | .str, c :: r, n, h => by simp [fixC, Ty.size]
  | .opq, c :: r, n, h => by simp [fixC, Ty.size]
  | .int _, [], n, h | .bool, [], n, h | .str, [], n, h | .opq, [], n, h => by simp [Ty.size] at h
theorem opd_nils {env : List AV} {n : Nat} {t : TypeId} {x : Operand} {v : AV} {sl : List Slot} (h : opd C env n t x = some (v, sl)) : Nils sl := by
  unfold opd at h
  split at h
  · simp only [Option.map_eq_some_iff] at h
    obtain ⟨_, _, h⟩ := h
    injection h with _ h
    subst h
    intro s hs; simp at hs
  · simp only [Option.bind_eq_some_iff] at h
    obtain ⟨u, h1, cs, h2, h⟩ := h
    split at h
    · injection h with h; injection h with _ h; subst h; intro s hs; simp at hs
    · rename_i ty hty
      have hn := fixC_nils (el := C.el) ty cs n
      split at h
      case h_2 => simp at h
      rename_i cs' sl' he
      rw [he] at hn
      split at h
      · injection h with h; injection h with _ h; subst h; exact hn
      · simp only [Option.map_eq_some_iff] at h
        obtain ⟨_, _, h⟩ := h
        injection h with _ h; subst h; exact hn
theorem opd_ok {env : List AV} {a : Act} {n : Nat} {t : TypeId} {x : Operand} {v : AV} {sl : List Slot} (hx : OpOk F w β G env a x) (h : opd C env n t x = some (v, sl)) (hn : AtN β G n sl) : RepA F w β G v (a.eval x) := by
  unfold opd at h
  split at h
  · simp only [Option.map_eq_some_iff] at h
    obtain ⟨u, h1, h⟩ := h
    injection h with h _
    subst h
    exact hx _ h1
  · simp only [Option.bind_eq_some_iff] at h
    obtain ⟨u, h1, cs, h2, h⟩ := h
    have r := hx _ h1
    split at h
    · injection h with h; injection h with h _; subst h; exact r
    · rename_i ty hty
      split at h
      case h_2 => simp at h
      rename_i cs' sl' he
      have hk := cells_ok h2 r
      split at h
      · injection h with h; injection h with h hs
        subst h hs
        rename_i cs0
        obtain ⟨vs, hv, h3⟩ := r
        simp [AV.cells] at h2
        subst h2
        have := fixC_ok (el := C.el) (T := ty) (n := n) h3 (by rw [he]; exact hn)
        rw [he] at this
        obtain ⟨v1, v2, e, r1, r2⟩ := this
        cases r2
        exact ⟨vs, hv, by rw [e, List.append_nil]; exact r1⟩
      · simp only [Option.map_eq_some_iff] at h
        obtain ⟨v', hm, h⟩ := h
        injection h with h hs
        subst h hs
        cases u with
        | one c =>
          simp [AV.cells] at h2
          subst h2
          have h1' := RepV.one r
          have := fixC_ok (el := C.el) (T := ty) (n := n) (All2.cons r .nil) (by rw [he]; exact hn)
          rw [he] at this
          obtain ⟨v1, v2, e, r1, r2⟩ := this
          cases r2
          rw [List.append_nil] at e
          subst e
          unfold mkAV at hm
          simp only [Bool.false_eq_true, if_false] at hm
          split at hm
          · injection hm with hm
            subst hm
            cases r1 with
            | cons r1 _ => exact r1
          · simp at hm
        | agg cs0 => rename_i hne; exact absurd rfl (hne cs0)
        | _ => simp [AV.cells] at h2

/-! ### What a quiet operation does -/
def QPost (P : Program) (base : Nat → Prop) (F : Nat → Prop) (w : World) (β : Bd) (G : Heap) (n : Nat) (o : Oper) (a : Act) (v : AV) (sl : List Slot) : Prop :=
  ∃ (v' : Value) (w' : World) (us : List Value), (execOp a.eval o).run P w = .ok (.value v') w' ∧ us.length = sl.length ∧ (Below w.heap.size w w' ∧ (sl = [] → w' = w)) ∧
    (∀ (j : Nat) (u : Value) (g : Nat), us[j]? = some u → blk u = some g → j = 0 ∧ w.heap.size ≤ g ∧ g < w'.heap.size) ∧
    ∀ β' : Bd, (∀ h u, β h = some u → β' h = some u) → (∀ (j : Nat) (u : Value), us[j]? = some u → β' (n + j) = some u) →
      (∀ (j : Nat) (s : Slot) (u : Value), sl[j]? = some s → us[j]? = some u → SlotOk base F w' β' G s u) ∧ RepA F w' β' G v v'
/-- What is known ahead of an operation. -/
structure Pre (L : Nat → Prop) (w0 w : World) (F0 F : Nat → Prop) (β : Bd) (H G : Heap) (n : Nat) (sl : List Slot) : Prop where
  good : Good L w0 w F0 F β G
  pre : ∀ (h : Nat) (s : Slot), H[h]? = some s → s ≠ .dead → G[h]? = some s
  new : ∀ (j : Nat) (s : Slot), sl[j]? = some s → G[n + j]? = some s
variable {L : Nat → Prop} {w0 : World} {F0 : Nat → Prop} {n : Nat} {sl : List Slot} {env : List AV} {a : Act} {o : Oper} {v : AV}
theorem keeps_ext (h : ∀ h u, β h = some u → β' h = some u) (hw : ∀ g, F g → w.heap[g]? = w.heap[g]?) : Keeps F F w w β β' G G :=
  ⟨fun _ h => h, fun _ _ => rfl, h, fun h s hs => ⟨s, hs, by cases s <;> first | trivial | exact ⟨rfl, fun _ => rfl, id⟩⟩⟩
theorem keeps_world {w' : World} (gd : Good L w0 w F0 F β G) (hb : Below w.heap.size w w') (h : ∀ h u, β h = some u → β' h = some u) : Keeps F F w w' β β' G G :=
  ⟨fun _ h => h, fun g hg => hb.block g (gd.fsz g hg), h, fun h s hs => ⟨s, hs, by cases s <;> first | trivial | exact ⟨rfl, fun _ => rfl, id⟩⟩⟩
theorem QPost.pure {v' : Value} (hr : (execOp a.eval o).run P w = .ok (.value v') w) (r : RepA F w β G v v') (base : Nat → Prop) : QPost P base F w β G n o a v [] :=
  ⟨v', w, [], hr, rfl, ⟨Below.refl _ _, fun _ => rfl⟩, fun j u g h => by simp at h, fun β' hb _ => ⟨fun j s u h => by simp at h, r.mono (keeps_ext hb fun _ _ => rfl)⟩⟩
theorem Pre.slot (p : Pre L w0 w F0 F β H G n sl) {h : Nat} {s : Slot} (e : slotAt H h = s) (hs : s ≠ .dead) : G[h]? = some s := by
  unfold slotAt at e
  rw [List.getD_eq_getElem?_getD] at e
  cases hh : H[h]? with
  | none => rw [hh] at e; exact absurd e.symm hs
  | some s' => rw [hh] at e; simp at e; subst e; exact p.pre _ _ hh hs
theorem nils_at {us : List Value} (hn : Nils sl) (e : us = List.replicate sl.length (.slice none 0 0)) (hG : ∀ (j : Nat) (s : Slot), sl[j]? = some s → G[n + j]? = some s) (hb : ∀ (j : Nat) (u : Value), us[j]? = some u → β' (n + j) = some u) : AtN β' G n sl := by
  intro j s hs
  refine ⟨hG j s hs, hb j _ ?_⟩
  have hj := (List.getElem?_eq_some_iff.1 hs).1
  rw [e, List.getElem?_replicate_of_lt hj]
theorem nil_slot {base : Nat → Prop} {s : Slot} (h : ∃ e t, s = Slot.row true e t [] ∧ t.isMp = false) : SlotOk base F w β' G s (.slice none 0 0) := by
  obtain ⟨e, t, rfl, hm⟩ := h
  exact ⟨⟨[], (owns_sl hm).2 (own_of (World.ownsRow_nil _ _ _ _)), by simp, fun i x h => by simp at h⟩, fun g h => by simp [blk] at h⟩
theorem Nils.slots {base : Nat → Prop} (hn : Nils sl) {j : Nat} {s : Slot} {u : Value} (hs : sl[j]? = some s) (hu : (List.replicate sl.length (Value.slice none 0 0))[j]? = some u) : SlotOk base F w β' G s u := by
  have hj := (List.getElem?_eq_some_iff.1 hs).1
  rw [List.getElem?_replicate_of_lt hj] at hu
  injection hu with hu
  subst hu
  exact nil_slot (hn _ (List.mem_of_getElem? hs))
theorem nils_blk {k j : Nat} {u : Value} {g : Nat} (hu : (List.replicate k (Value.slice none 0 0))[j]? = some u) (hg : blk u = some g) : False := by
  have := List.mem_of_getElem? hu
  rw [List.mem_replicate] at this
  rw [this.2] at hg
  simp [blk] at hg

section ops
variable (p : Pre L w0 w F0 F β H G n sl) (hE : ∀ x ∈ o.op.operands, OpOk F w β G env a x) (cx : CtxOk P C)
include p hE cx
theorem q_move {x : Operand} (ho : o.op = .move x ∨ o.op = .assign x) (h : opd C env n o.type x = some (v, sl)) : QPost P (Bs L w0) F w β G n o a v sl := by
  have hn := opd_nils h
  have hx : OpOk F w β G env a x := hE x (by rcases ho with e | e <;> rw [e] <;> simp [Op.operands])
  refine ⟨a.eval x, w, List.replicate sl.length (.slice none 0 0), ?_, by simp, ⟨Below.refl _ _, fun _ => rfl⟩, fun j u g hu hg => (nils_blk hu hg).elim, fun β' hb hβ => ⟨fun j s u hs hu => hn.slots hs hu, ?_⟩⟩
  · rcases ho with e | e <;> simp [execOp, e]
  · exact opd_ok (fun v hv => (hx v hv).mono (keeps_ext hb fun _ _ => rfl)) h (nils_at hn rfl p.new hβ)
end ops
end
end Go.Proofs.Ytanpdkllnmeenaa.Am
namespace Go.Proofs.Ytanpdkllnmeenaa.Am
open Go Go.RowKit
set_option linter.unusedVariables false
set_option linter.unusedSectionVars false
set_option linter.unusedSimpArgs false
section
variable {P : Program} {C : Ctx} {F : Nat → Prop} {w : World} {β β' : Bd} {H G : Heap}
variable {L : Nat → Prop} {w0 : World} {F0 : Nat → Prop} {n : Nat} {sl : List Slot} {env : List AV} {a : Act} {o : Oper} {v : AV}
def cvV : CV → Value
  | .int k n => .int k n | .bool b => .bool b | .str s => .string s | _ => undef
theorem run_newObj' (o : Obj) : (newObj o).run P w = .ok w.heap.size (w.alloc o) := rfl
theorem run_zero {t : TypeId} {i : TypeInfo} {z : Value} (hi : P.info? t = some i) (hz : i.zero = some z) : (zeroValue t).run P w = .ok z w := by
  simp [zeroValue, run_typeInfo w hi, hz]
theorem run_newRow (t : TypeId) (cs : Array Value) : (newRow t cs).run P w = .ok ⟨w.heap.size, 0, none⟩ (w.alloc (.cells cs t)) := by
  simp [newRow, run_newObj']
theorem run_newVar (t : TypeId) (v : Value) : (newVar t v).run P w = .ok ⟨w.heap.size, 0, none⟩ (w.alloc (.cells v.cells t)) := run_newRow t v.cells
theorem alloc_at (o : Obj) : (w.alloc o).heap[w.heap.size]? = some o := by unfold World.alloc; simp
theorem below_alloc' (o : Obj) : Below w.heap.size w (w.alloc o) := ⟨rfl, rfl, rfl, by simp, fun k hk => Below.heap_alloc w o k hk⟩
theorem not_F (p : Pre L w0 w F0 F β H G n sl) : ¬ F w.heap.size := fun h => Nat.lt_irrefl _ (p.good.fsz _ h)
theorem rep_drop {cs : List CV} {vs : List Value} (h : All2 (RepV F w β G) cs vs) {off size : Nat} {us : List CV} (hc : cutC cs off size = some us) : All2 (RepV F w β G) us ((vs.drop off).take size) ∧ us.length = size ∧ off + size ≤ vs.length := by
  unfold cutC at hc
  split at hc
  · rename_i hl
    injection hc with hc
    subst hc
    have := h.length
    exact ⟨(h.drop off).take size, by rw [List.length_take, List.length_drop]; omega, by omega⟩
  · simp at hc
/-- A slot that a handle is bound to. -/
theorem Good.slot (gd : Good L w0 w F0 F β G) {h : Nat} {u : Value} {s : Slot} (hb : β h = some u) (hs : G[h]? = some s) : SlotOk (Bs L w0) F w β G s u := by
  obtain ⟨s', h1, h2⟩ := gd.dom h u hb
  rw [hs] at h1
  injection h1 with h1
  subst h1
  exact h2
/-- The cells of a row's element. -/
theorem row_elem {base : Nat → Prop} {live : Bool} {e : TypeId} {t : Ty} {xs : List t.den} {u : Value} (hs : SlotOk base F w β G (.row live e t xs) u) {g off k c : Nat} (hu : u = .slice (some ⟨g, off, none⟩) k c) {i : Nat} {x : t.den} (hx : xs[i]? = some x) :
    ∃ cells, RepC F w t x cells ∧ w.rangeAt g (off + i * t.size) cells := by
  have hm : t.isMp = false := by
    cases hm : t.isMp with
    | false => rfl
    | true =>
      subst hu
      cases live with
      | true =>
        obtain ⟨⟨cells, ho, hr⟩, _⟩ := hs
        simp only [OwnsT, hm] at ho
        obtain ⟨g, h, _⟩ := ho
        cases h
      | false =>
        obtain ⟨A, cap, h1, _⟩ := hs
        simp [hdr, hm] at h1
  cases live with
  | true =>
    obtain ⟨⟨cells, ho, hr⟩, _⟩ := hs
    rw [owns_sl hm] at ho
    refine ⟨_, hr.get hx, ?_⟩
    obtain ⟨hl, h | ⟨g', o', cap, cur, hv, hh, hn, hm', hz, ht⟩⟩ := ho
    · rw [hu] at h; cases h.1
    · rw [hu] at hv
      injection hv with h1 h2 h3
      injection h1 with h1
      injection h1 with h1 h4 _
      subst h1 h4
      intro j v hv
      rw [List.getElem?_take] at hv
      split at hv
      · rename_i hj
        rw [List.getElem?_drop, ← ht, List.getElem?_take] at hv
        split at hv
        · simp only [World.cell?, hh]
          rw [List.getElem?_drop, Array.getElem?_toList] at hv
          simpa [Nat.add_assoc] using hv
        · simp at hv
      · simp at hv
  | false =>
    obtain ⟨A, cap, h1, h2, h3⟩ := hs
    rw [hu, hdr_sl hm] at h1
    simp at h1
    obtain ⟨h1, rfl, rfl⟩ := h1
    rcases h3 with ⟨h3, _⟩ | ⟨g', o', cells, hA, hF, hr, hrange⟩
    · subst h3; simp at hx
    · rw [lies_sl hm] at hrange
      rw [← h1] at hA
      injection hA with hA
      injection hA with e1 e2 _
      subst e1 e2
      refine ⟨_, hr.get hx, fun j v hv => ?_⟩
      rw [List.getElem?_take] at hv
      split at hv
      · rw [List.getElem?_drop] at hv
        have := hrange _ _ hv
        rwa [← Nat.add_assoc] at this
      · simp at hv
theorem range_cut {g off : Nat} {cells : List Value} (h : w.rangeAt g off cells) (o size : Nat) : w.rangeAt g (off + o) ((cells.drop o).take size) := by
  intro j v hv
  rw [List.getElem?_take] at hv
  split at hv
  · rw [List.getElem?_drop] at hv
    have := h _ _ hv
    rwa [← Nat.add_assoc] at this
  · simp at hv
theorem box_range {g : Nat} {arr : Array Value} {e : TypeId} {fr : Nat × Nat} (h : w.heap[g]? = some (.cells arr e fr)) : w.rangeAt g 0 arr.toList := by
  intro j v hv
  simp only [World.cell?, h]
  rw [Array.getElem?_toList] at hv
  simpa using hv
/-- What may be read. -/
theorem read_ok (gd : Good L w0 w F0 F β G) (hHG : ∀ (h : Nat) (s : Slot), slotAt H h = s → s ≠ .dead → G[h]? = some s) {c : CV} {u : Value} (r : RepV F w β G c u) {size : Nat} {cs : List CV} (h : readP H size c = some cs) :
    ∃ g off vs, u = .pointer (some ⟨g, off, none⟩) ∧ w.rangeAt g off vs ∧ vs.length = size ∧ All2 (RepV F w β G) cs vs := by
  unfold readP at h
  split at h
  · rename_i hh i off
    split at h
    · rename_i t cs' hs
      have hG := hHG _ _ hs (by simp)
      simp only [RepV, RepPtr, hG] at r
      obtain ⟨rfl, g, hb, rfl⟩ := r
      obtain ⟨g', arr, e, hu, hbase, harr, hall, hnF⟩ := gd.slot hb hG
      simp at hu
      subst hu
      obtain ⟨h1, h2, h3⟩ := rep_drop hall h
      refine ⟨g, off, _, rfl, by simpa using range_cut (box_range harr) off size, by have := h1.length; omega, h1⟩
    · rename_i l e t xs hs
      split at h
      · simp at h
      have hG := hHG _ _ hs (by simp)
      simp only [RepV, RepPtr, hG] at r
      obtain ⟨⟨_, hi⟩, g, o, n, c, hb, rfl⟩ := r
      have hx : xs[i]? = some (xs.getD i t.dflt) := by rw [List.getD_eq_getElem?_getD, List.getElem?_eq_getElem hi]; simp
      obtain ⟨cells, hr, hrange⟩ := row_elem (gd.slot hb hG) rfl hx
      obtain ⟨h1, h2, h3⟩ := rep_drop (rep_flat (β := β) (H := G) hr) h
      exact ⟨g, _, _, rfl, range_cut hrange off size, by have := h1.length; omega, h1⟩
    · simp at h
  · rename_i t x off
    obtain ⟨g, o, cells, rfl, hF, hr, hrange⟩ := r
    obtain ⟨h1, h2, h3⟩ := rep_drop (rep_flat (β := β) (H := G) hr) h
    exact ⟨g, _, _, rfl, range_cut hrange off size, by have := h1.length; omega, h1⟩
  · simp at h
theorem mkAV_ok {agg : Bool} {cs : List CV} {vs : List Value} {v : AV} (h : mkAV agg cs = some v) (r : All2 (RepV F w β G) cs vs) : RepA F w β G v (if agg then .agg vs.toArray else vs.headD undef) := by
  unfold mkAV at h
  split at h
  · injection h with h
    subst h
    exact ⟨vs.toArray, by simp [*], by simpa using r⟩
  · rename_i hf
    split at h
    · injection h with h
      subst h
      cases r with
      | cons r t => rw [if_neg hf]; exact r
    · simp at h
theorem run_isAgg' {t : TypeId} {d : TypeDesc} (h : P.underlying t = some d) : (isAgg t).run P w = .ok d.isRow w := by
  simp only [isAgg, Sem.run_bind, run_underlying h, Result.andThen_ok]
  cases d <;> rfl
theorem run_load_of {t : TypeId} {T : Ty} {d : TypeDesc} {i : TypeInfo} {z : Value} (ht : TOk P C t T d i z) {g off : Nat} {vs : List Value} (hr : w.rangeAt g off vs) (hl : vs.length = T.size) :
    (Instr.loadAt t (.pointer (some ⟨g, off, none⟩))).run P w = .ok (if T.isAgg then .agg vs.toArray else vs.headD undef) w := by
  cases hT : T.isAgg with
  | true => exact run_loadAt_mid w g off t vs d hr ht.und (ht.row.trans hT) (by rw [ht.info]; simp [ht.size, hl])
  | false =>
    have h1 := size_one hT
    rw [h1] at hl
    match vs, hl with
    | [u], _ =>
      have := hr 0 u rfl
      have hd := ht.row.trans hT
      rw [Nat.add_zero] at this
      simp [Instr.loadAt, Instr.sureAddr, loadVar, run_isAgg' ht.und, hd, load, Sem.run, this]
section ops
variable (p : Pre L w0 w F0 F β H G n sl) (hE : ∀ x ∈ o.op.operands, OpOk F w β G env a x) (cx : CtxOk P C)
include p hE cx
/-- A new variable. -/
theorem q_new {e : TypeId} {T : Ty} {cs : List CV} {sl' : List Slot} {u : Value} (hsl : sl = .box T cs :: sl') (hn : Nils sl')
    (hr : (execOp a.eval o).run P w = .ok (.value (.pointer (some ⟨w.heap.size, 0, none⟩))) (w.alloc (.cells u.cells e)))
    (hc : ∀ β', (∀ h u, β h = some u → β' h = some u) → AtN β' G (n + 1) sl' → All2 (RepV F w β' G) cs u.cells.toList) :
    QPost P (Bs L w0) F w β G n o a (.one (.ptr n 0 0)) sl := by
  subst hsl
  refine ⟨_, _, .pointer (some ⟨w.heap.size, 0, none⟩) :: List.replicate sl'.length (.slice none 0 0), hr, by simp, ⟨below_alloc' _, fun h => by simp at h⟩, fun j u g hu hg => ?_, fun β' hb hβ => ?_⟩
  · cases j with
    | zero => simp at hu; subst hu; simp [blk] at hg; subst hg; exact ⟨rfl, Nat.le_refl _, by simp⟩
    | succ j => exact (nils_blk (by simpa using hu) hg).elim
  · have h0 := hβ 0 _ rfl
    rw [Nat.add_zero] at h0
    have hG := p.new 0 _ rfl
    rw [Nat.add_zero] at hG
    have hat : AtN β' G (n + 1) sl' := nils_at hn rfl (fun j s hs => by have := p.new (j + 1) s (by simpa using hs); rwa [show n + (j + 1) = n + 1 + j by omega] at this) (fun j u hu => by have := hβ (j + 1) u (by simpa using hu); rwa [show n + (j + 1) = n + 1 + j by omega] at this)
    refine ⟨fun j s u hs hu => ?_, ?_⟩
    · cases j with
      | zero =>
        simp at hs hu
        subst hs hu
        exact ⟨_, _, e, rfl, .inl p.good.below.size, alloc_at _, (hc β' hb hat).mono fun _ _ => RepV.mono ⟨fun _ h => h, fun g hg => (below_alloc' _).block g (p.good.fsz g hg), fun _ _ h => h, fun h s hs => ⟨s, hs, by cases s <;> first | trivial | exact ⟨rfl, fun _ => rfl, id⟩⟩⟩, not_F p⟩
      | succ j => exact hn.slots (by simpa using hs) (by simpa using hu)
    · simp only [RepA, RepV, RepPtr, hG]
      exact ⟨by trivial, _, h0, rfl⟩
theorem q_alloc {e : TypeId} {T : Ty} (ho : o.op = .alloc e) (ht : C.ty e = some T) (h : (match fixC C.el T (zeroC T) (n + 1) with | (cs, sl, []) => some (true, AV.one (.ptr n 0 0), Slot.box T cs :: sl) | _ => none) = some (true, v, sl)) : QPost P (Bs L w0) F w β G n o a v sl := by
  obtain ⟨d, i, z, tk⟩ := cx.ty _ _ ht
  have hn := fixC_nils (el := C.el) T (zeroC T) (n + 1)
  split at h
  case h_2 => simp at h
  rename_i cs sl' he
  rw [he] at hn
  simp at h
  obtain ⟨rfl, hsl⟩ := h
  refine q_new p hE cx (T := T) (cs := cs) (e := e) (u := z) hsl.symm hn ?_ fun β' hb hat => ?_
  · simp [execOp, ho, Instr.alloc, run_zero tk.info tk.zero, run_newVar]
  · have := fixC_ok (el := C.el) (T := T) (n := n + 1) (tk.rep F w β' G) (by rw [he]; exact hat)
    rw [he] at this
    obtain ⟨v1, v2, e, r1, r2⟩ := this
    cases r2
    rw [e, List.append_nil]
    exact r1
theorem q_box {e : TypeId} {T : Ty} {x : Operand} {cs : List CV} {q : AV × List Slot} (ho : o.op = .box e x) (h1 : opd C env (n + 1) e x = some q) (h2 : q.1.cells = some cs) (hsl : sl = .box T cs :: q.2) : QPost P (Bs L w0) F w β G n o a (.one (.ptr n 0 0)) sl := by
  have hx : OpOk F w β G env a x := hE x (by rw [ho]; simp [Op.operands])
  refine q_new p hE cx (T := T) (cs := cs) (e := e) (u := a.eval x) hsl (opd_nils h1) ?_ fun β' hb hat => ?_
  · simp [execOp, ho, Instr.box, run_newVar]
  · exact cells_ok h2 (opd_ok (fun v hv => (hx v hv).mono (keeps_ext hb fun _ _ => rfl)) h1 hat)
theorem q_load {t : TypeId} {T : Ty} {x : Operand} {c : CV} {cs : List CV} (ho : o.op = .load t x) (ht : C.ty t = some T) (h1 : oprC env x = some c) (h2 : readP H T.size c = some cs) (h3 : mkAV T.isAgg cs = some v) (hsl : sl = []) : QPost P (Bs L w0) F w β G n o a v sl := by
  subst hsl
  obtain ⟨d, i, z, tk⟩ := cx.ty _ _ ht
  have hx : OpOk F w β G env a x := hE x (by rw [ho]; simp [Op.operands])
  obtain ⟨g, off, vs, hu, hr, hl, r⟩ := read_ok p.good (fun h s => p.slot) (hx.cell h1) h2
  refine QPost.pure (v' := if T.isAgg then .agg vs.toArray else vs.headD undef) ?_ (mkAV_ok h3 r) _
  simp [execOp, ho, hu, run_load_of tk hr hl]
theorem q_nilCheck {x : Operand} {c q : CV} (ho : o.op = .nilCheck x) (h1 : oprC env x = some c) (h2 : nilP H c = some q) (hv : v = .one q) (hsl : sl = []) : QPost P (Bs L w0) F w β G n o a v sl := by
  subst hv hsl
  have r := (hE x (by rw [ho]; simp [Op.operands])).cell h1
  have key : (∃ a', a.eval x = .pointer (some a')) ∧ q = c := by
    cases c <;> simp [nilP] at h2
    · rename_i h i off
      split at h2
      · simp at h2
      · rename_i hd
        simp at h2
        subst h2
        refine ⟨?_, rfl⟩
        have hG := p.slot (h := h) rfl (fun e => hd e)
        simp only [RepV, RepPtr, hG] at r
        cases hs : slotAt H h with
        | dead => exact absurd hs hd
        | row l e t xs => rw [hs] at r; obtain ⟨_, g, o, n, c, _, h⟩ := r; exact ⟨_, h⟩
        | box t cs => rw [hs] at r; obtain ⟨_, g, _, h⟩ := r; exact ⟨_, h⟩
        | iter => rw [hs] at r; exact r.elim
    · subst h2
      obtain ⟨g, o, cells, h, _⟩ := r
      exact ⟨⟨_, h⟩, rfl⟩
  obtain ⟨⟨a', ha⟩, rfl⟩ := key
  refine QPost.pure (v := .one q) (v' := a.eval x) ?_ r _
  simp [execOp, ho, ha]
theorem q_pure1 {v' : Value} (hr : (execOp a.eval o).run P w = .ok (.value v') w) (r : RepA F w β G v v') (hsl : sl = []) : QPost P (Bs L w0) F w β G n o a v sl := by
  subst hsl
  exact QPost.pure hr r _
theorem q_bin {op : BinOp} {t t2 : TypeId} {x y : Operand} {c d : CV} {q : CV} (ho : o.op = .binOp op t x y t2) (h1 : oprC env x = some c) (h2 : oprC env y = some d) (h3 : binQ op c d = some (true, q)) (hv : v = .one q) (hsl : sl = []) : QPost P (Bs L w0) F w β G n o a v sl := by
  subst hsl hv
  have hx := (hE x (by rw [ho]; simp [Op.operands])).cell h1
  have hy := (hE y (by rw [ho]; simp [Op.operands])).cell h2
  cases c with
  | int k m =>
    cases d with
    | int k' m' =>
      have ex : a.eval x = .int k m := hx
      have ey : a.eval y = .int k' m' := hy
      have hg : (eqGuard op t x y (.int k m) (.int k' m')).run P w = .ok () w := by
        unfold eqGuard
        cases op <;> simp
      have key : (binOp op t (.int k m) (.int k' m')).run P w = .ok (cvV q) w ∧ RepV F w β G q (cvV q) := by
        unfold binQ at h3
        cases op
        case shl | shr =>
          simp only [Option.some.injEq, Prod.mk.injEq, decide_eq_true_eq] at h3
          obtain ⟨hne, rfl⟩ := h3
          have hlt : ¬ m' < 0 := by omega
          exact ⟨by simp [binOp, Op.shift, hlt, cvV], rfl⟩
        case quo | rem =>
          simp only [] at h3
          split at h3
          · rename_i hk
            subst hk
            simp only [Option.some.injEq, Prod.mk.injEq, bne_iff_ne, ne_eq] at h3
            obtain ⟨hne, rfl⟩ := h3
            exact ⟨by simp [binOp, Op.intDiv, hne, cvV], rfl⟩
          · simp at h3
        all_goals
          simp only [] at h3
          split at h3
          case isFalse => simp at h3
          rename_i hk
          subst hk
          first
            | (simp at h3; done)
            | (simp only [Option.some.injEq, Prod.mk.injEq, true_and] at h3
               subst h3
               exact ⟨by simp [binOp, Op.intArith, Op.intBits, Op.intCmp, cvV], rfl⟩)
      obtain ⟨hu, r⟩ := key
      refine QPost.pure (v := .one q) (v' := cvV q) ?_ r _
      simp [execOp, ho, ex, ey, hg, hu]
    | _ => cases op <;> simp [binQ] at h3
  | _ => cases op <;> simp [binQ] at h3
end ops
end
end Go.Proofs.Ytanpdkllnmeenaa.Am
namespace Go.Proofs.Ytanpdkllnmeenaa.Am
open Go Go.RowKit
set_option linter.unusedVariables false
set_option linter.unusedSectionVars false
set_option linter.unusedSimpArgs false
section
variable {P : Program} {C : Ctx} {F : Nat → Prop} {w : World} {β β' : Bd} {H G : Heap}
variable {L : Nat → Prop} {w0 : World} {F0 : Nat → Prop} {n : Nat} {sl : List Slot} {env : List AV} {a : Act} {o : Oper} {v : AV}
theorem pv_ok {c : CV} {q : PV} {u : Value} (h : c.pv = some q) (r : RepV F w β G c u) : RepP F w β G q u := by
  cases c <;> simp [CV.pv] at h <;> subst h
  · rw [show u = _ from r]; rfl
  · rw [show u = _ from r]; rfl
  · rw [show u = _ from r]; rfl
  · exact r
  · exact r
  · exact r
theorem av_ok {T : Option Ty} {c : AV} {q : PV} {u : Value} (h : c.pv T = some q) (r : RepA F w β G c u) : RepP F w β G q u := by
  cases c with
  | undef => simp [AV.pv] at h
  | tup => simp [AV.pv] at h
  | one c => exact pv_ok h r
  | agg cs =>
    simp only [AV.pv, Option.bind_eq_some_iff, Option.map_eq_some_iff] at h
    obtain ⟨t, _, x, h1, rfl⟩ := h
    obtain ⟨vs, e, r⟩ := r
    exact ⟨vs, e, rep_unflat1 h1 r⟩
theorem pvs_ok {T : Nat → Option Ty} {l : List Operand} {m : List PV} {i : Nat} (hl : ∀ x ∈ l, OpOk F w β G env a x) (h : pvs T i (l.map (opr env)) = some m) : All2 (RepP F w β G) m (l.map a.eval) := by
  induction l generalizing m i with
  | nil => simp [pvs] at h; subst h; exact .nil
  | cons x l ih =>
    simp only [List.map_cons, pvs, Option.bind_eq_some_iff, Option.map_eq_some_iff] at h
    obtain ⟨q, ⟨c, h1, h2⟩, r, h3, rfl⟩ := h
    exact .cons (av_ok h2 (hl x (by simp) _ h1)) (ih (fun y hy => hl y (by simp [hy])) h3)
theorem QPost.pure1 {q : CV} {v' : Value} (hr : (execOp a.eval o).run P w = .ok (.value v') w) (r : RepV F w β G q v') (base : Nat → Prop) : QPost P base F w β G n o a (.one q) [] := QPost.pure (v := .one q) hr r base
section ops
variable (p : Pre L w0 w F0 F β H G n sl) (hE : ∀ x ∈ o.op.operands, OpOk F w β G env a x) (cx : CtxOk P C)
include p hE cx
theorem q_un {op : UnOp} {t : TypeId} {x : Operand} {c q : CV} (ho : o.op = .unOp op t x) (h1 : oprC env x = some c) (h2 : unQ op c = some q) (hv : v = .one q) (hsl : sl = []) : QPost P (Bs L w0) F w β G n o a v sl := by
  subst hv hsl
  have hx := (hE x (by rw [ho]; simp [Op.operands])).cell h1
  cases op <;> cases c <;> simp [unQ] at h2
  · subst h2
    rename_i k m
    have ex : a.eval x = .int k m := hx
    exact QPost.pure1 (v' := .int k (k.wrap (-m))) (by simp [execOp, ho, ex, Op.unary, Op.intArith]) (by simp [RepV]) _
  · subst h2
    rename_i b
    have ex : a.eval x = .bool b := hx
    refine QPost.pure1 (v' := .bool (!b)) (by simp [execOp, ho, ex, Op.unary]) ?_ _
    rfl
theorem q_conv {s d : TypeId} {x : Operand} {k k2 k3 : IntKind} {m : Int} (ho : o.op = .convert s d x) (h1 : oprC env x = some (.int k3 m)) (hs : C.ty s = some (.int k2)) (hd : C.ty d = some (.int k)) (hv : v = .one (.int k (k.wrap m))) (hsl : sl = []) : QPost P (Bs L w0) F w β G n o a v sl := by
  subst hv hsl
  have ex : a.eval x = .int k3 m := (hE x (by rw [ho]; simp [Op.operands])).cell h1
  obtain ⟨d1, i1, z1, t1⟩ := cx.ty _ _ hs
  obtain ⟨d2, i2, z2, t2⟩ := cx.ty _ _ hd
  have e1 := t1.int _ rfl
  have e2 := t2.int _ rfl
  subst e1 e2
  refine QPost.pure1 (v' := .int k (k.wrap m)) (by simp [execOp, ho, ex, convert, run_underlying t1.und, run_underlying t2.und, Conv.intToInt]) ?_ _
  rfl
theorem q_makeFunc {f : FuncId} {l m : Array Operand} {l' m' : List PV} (ho : o.op = .makeFunc (.func f) l m) (h1 : pvs (C.pty f) 0 (l.toList.map (opr env)) = some l') (h2 : pvs (fun _ => none) 0 (m.toList.map (opr env)) = some m') (hv : v = .one (.fn f l' m')) (hsl : sl = []) : QPost P (Bs L w0) F w β G n o a v sl := by
  subst hv hsl
  refine QPost.pure1 (v' := .func (.func f) (l.map a.eval) (m.map a.eval)) (by simp [execOp, ho, Instr.makeFunc]) ?_ _
  refine ⟨_, _, rfl, ?_, ?_⟩
  · simpa using pvs_ok (fun x hx => hE x (by rw [ho]; simp [Op.operands]; exact .inl (by simpa using hx))) h1
  · simpa using pvs_ok (fun x hx => hE x (by rw [ho]; simp [Op.operands]; exact .inr (by simpa using hx))) h2
theorem q_fieldAddr {s : TypeId} {x : Operand} {f : Nat} {fl : Fld} {c q : CV} (ho : o.op = .fieldAddr s x f) (h1 : oprC env x = some c) (h2 : C.fld s f = some fl) (h3 : fldP H fl.off c = some q) (hv : v = .one q) (hsl : sl = []) : QPost P (Bs L w0) F w β G n o a v sl := by
  subst hv hsl
  have r := (hE x (by rw [ho]; simp [Op.operands])).cell h1
  obtain ⟨fields, fd, i, d, pl, fk⟩ := cx.fld _ _ _ h2
  have key : ∃ g off, a.eval x = .pointer (some ⟨g, off, none⟩) ∧ RepV F w β G q (.pointer (some ⟨g, off + fl.off, none⟩)) := by
    cases c <;> simp [fldP] at h3
    · rename_i h i off
      split at h3
      · simp at h3
      · rename_i hd
        injection h3 with h3
        subst h3
        have hG := p.slot (h := h) rfl (fun e => hd e)
        simp only [RepV, RepPtr, hG] at r ⊢
        cases hs : slotAt H h with
        | dead => exact absurd hs hd
        | row l e t xs =>
          rw [hs] at r
          obtain ⟨hi, g, o, n, c, hb, h⟩ := r
          exact ⟨g, _, h, hi, g, o, n, c, hb, by rw [Nat.add_assoc]⟩
        | box t cs =>
          rw [hs] at r
          obtain ⟨hi, g, hb, h⟩ := r
          exact ⟨g, _, h, hi, g, hb, rfl⟩
        | iter => rw [hs] at r; exact r.elim
    · subst h3
      obtain ⟨g, o, cells, h, hF, hr, hrange⟩ := r
      exact ⟨g, _, h, g, o, cells, by rw [Nat.add_assoc], hF, hr, hrange⟩
  obtain ⟨g, off, hx, hr⟩ := key
  have hadd : (⟨g, off, none⟩ : Addr).add fd.offset = ⟨g, off + fl.off, none⟩ := by rw [Addr.add_mid, fk.off]
  have hsz : (sizeOf fd.type).run P w = .ok i.size w := by simp [sizeOf, run_typeInfo w fk.info]
  have hne : i.size ≠ 0 := by rw [fk.size]; have := fk.pos; omega
  refine QPost.pure (v := .one q) (v' := .pointer (some ⟨g, off + fl.off, none⟩)) ?_ hr _
  simp [execOp, ho, hx, Instr.fieldAt, run_underlying fk.und, fk.at_, Instr.sureAddr, fieldPlace, hsz, hne, hadd]
theorem q_field {s : TypeId} {x : Operand} {f : Nat} {fl : Fld} {cs us : List CV} (ho : o.op = .field s x f) (h1 : opr env x = some (.agg cs)) (h2 : C.fld s f = some fl) (h3 : cutC cs fl.off fl.size = some us) (h4 : mkAV fl.agg us = some v) (hsl : sl = []) : QPost P (Bs L w0) F w β G n o a v sl := by
  subst hsl
  obtain ⟨vs, hx, r⟩ := hE x (by rw [ho]; simp [Op.operands]) _ h1
  obtain ⟨fields, fd, i, d, pl, fk⟩ := cx.fld _ _ _ h2
  obtain ⟨r1, r2, r3⟩ := rep_drop r h3
  have hl : ((vs.toList.drop fl.off).take fl.size).length = fl.size := by rw [← r1.length]; exact r2
  refine QPost.pure (v' := if fl.agg then .agg ((vs.toList.drop fl.off).take fl.size).toArray else ((vs.toList.drop fl.off).take fl.size).headD undef) ?_ (mkAV_ok h4 r1) _
  have hrow := fk.row
  cases hag : fl.agg with
  | true =>
    rw [hag] at hrow
    have : vs.extract fl.off (fl.off + fl.size) = ((vs.toList.drop fl.off).take fl.size).toArray := by
      apply Array.toList_inj.mp
      rw [Array.toList_extract, List.extract_eq_take_drop]
      simp
    have hsz : (sizeOf fd.type).run P w = .ok fl.size w := by simp [sizeOf, run_typeInfo w fk.info, fk.size]
    simp [execOp, ho, hx, Instr.field, run_underlying fk.und, fk.at_, asAgg, part, run_isAgg' fk.dund, hrow, hsz, fk.off, this]
  | false =>
    rw [hag] at hrow h4
    have hpos := fk.pos
    have hlt : fl.off < vs.size := by simpa using (by omega : fl.off < vs.toList.length)
    have e : ((vs.toList.drop fl.off).take fl.size).headD undef = vs[fl.off] := by
      have : ((vs.toList.drop fl.off).take fl.size)[0]? = some vs[fl.off] := by
        rw [List.getElem?_take_of_lt hpos, List.getElem?_drop, Nat.add_zero, Array.getElem?_toList, Array.getElem?_eq_getElem hlt]
      cases hq : ((vs.toList.drop fl.off).take fl.size) with
      | nil => rw [hq] at this; simp at this
      | cons b l => rw [hq] at this; simpa using this
    simp only [Bool.false_eq_true, if_false]
    rw [e]
    simp [execOp, ho, hx, Instr.field, run_underlying fk.und, fk.at_, asAgg, part, run_isAgg' fk.dund, hrow, fk.off, Array.getElem?_eq_getElem hlt]
theorem q_extract {x : Operand} {i : Nat} {vs : List (Bool × List CV)} {q : Bool × List CV} (ho : o.op = .extract x i) (h1 : opr env x = some (.tup vs)) (h2 : vs[i]? = some q) (h3 : mkAV q.1 q.2 = some v) (hsl : sl = []) : QPost P (Bs L w0) F w β G n o a v sl := by
  subst hsl
  obtain ⟨us, hx, r⟩ := hE x (by rw [ho]; simp [Op.operands]) _ h1
  obtain ⟨u, hu, r1⟩ := r.get h2
  refine QPost.pure (v' := u) (by simp [execOp, ho, hx, Instr.extract, show us[i]? = some u by simpa using hu]) ?_ _
  rcases q with ⟨b, cs⟩
  cases b with
  | true =>
    obtain ⟨ws, rfl, r2⟩ := r1
    simp [mkAV] at h3
    subst h3
    exact ⟨ws, rfl, r2⟩
  | false =>
    obtain ⟨c, hc, r2⟩ := r1
    subst hc
    simp [mkAV] at h3
    subst h3
    exact r2
theorem q_mm {g : Bool} {x y : Operand} {args : Array Operand} {ats : Array TypeId} {c d q : CV} (ho : o.op = .call { callee := .builtin (if g then .max else .min), args, argTypes := ats }) (ha : args.toList = [x, y]) (h1 : oprC env x = some c) (h2 : oprC env y = some d) (h3 : mmQ g c d = some q) (hv : v = .one q) (hsl : sl = []) : QPost P (Bs L w0) F w β G n o a v sl := by
  subst hv hsl
  have hargs : args = #[x, y] := Array.toList_inj.mp ha
  subst hargs
  have r1 := (hE x (by rw [ho]; simp [Op.operands, Call.operands])).cell h1
  have r2 := (hE y (by rw [ho]; simp [Op.operands, Call.operands])).cell h2
  unfold mmQ at h3
  split at h3
  · rename_i k m k' m'
    split at h3
    · rename_i e
      subst e
      injection h3 with h3
      subst h3
      have e1 : a.eval x = .int k' m := r1
      have e2 : a.eval y = .int k' m' := r2
      cases g with
      | true => exact QPost.pure1 (v' := .int k' (if m' > m then m' else m)) (by simp [execOp, ho, resolve, invoke, builtin, Builtin.max_, Builtin.max2, e1, e2]) (by show Value.int _ _ = Value.int _ _; congr 1; simp only [if_true, Int.max_def]; split <;> split <;> omega) _
      | false => exact QPost.pure1 (v' := .int k' (if m' < m then m' else m)) (by simp [execOp, ho, resolve, invoke, builtin, Builtin.min_, Builtin.min2, e1, e2]) (by show Value.int _ _ = Value.int _ _; congr 1; simp only [Bool.false_eq_true, if_false, Int.min_def]; split <;> split <;> omega) _
    · simp at h3
  · simp at h3
end ops
end
end Go.Proofs.Ytanpdkllnmeenaa.Am
namespace Go.Proofs.Ytanpdkllnmeenaa.Am
open Go Go.RowKit
set_option linter.unusedVariables false
set_option linter.unusedSectionVars false
set_option linter.unusedSimpArgs false
section
variable {P : Program} {C : Ctx} {F : Nat → Prop} {w : World} {β β' : Bd} {H G : Heap}
variable {L : Nat → Prop} {w0 : World} {F0 : Nat → Prop} {n : Nat} {sl : List Slot} {env : List AV} {a : Act} {o : Oper} {v : AV}
/-- What a row's handle is bound to. -/
theorem row_val {base : Nat → Prop} {live : Bool} {e : TypeId} {t : Ty} {xs : List t.den} {u : Value} (hm : t.isMp = false) (hs : SlotOk base F w β G (.row live e t xs) u) :
    ∃ A c, u = .slice A xs.length c ∧ xs.length ≤ c ∧ (xs = [] ∨ ∃ g o, A = some ⟨g, o, none⟩) := by
  cases live with
  | true =>
    obtain ⟨⟨cells, ho, hr⟩, _⟩ := hs
    rw [owns_sl hm] at ho
    obtain ⟨hl, h | ⟨g', o', cap, cur, hv, hh, hn, hm', hz, ht⟩⟩ := ho
    · exact ⟨none, 0, by rw [h.1, h.2], by omega, .inl (List.length_eq_zero_iff.1 h.2)⟩
    · exact ⟨_, _, hv, hn, .inr ⟨_, _, rfl⟩⟩
  | false =>
    obtain ⟨A, cap, h1, h2, h3⟩ := hs
    rw [hdr_sl hm] at h1
    simp at h1
    refine ⟨A, cap, h1, h2, h3.imp And.left fun ⟨g, o, cells, hA, _⟩ => ⟨g, o, hA⟩⟩
theorem madeCells_get {z : Array Value} {n j : Nat} (h : j < n) : (madeCells z n).toList[j]? = some (z[j % z.size]!) := by
  rw [Array.getElem?_toList]
  simp [madeCells, h]
theorem made_take {z : Array Value} {n m : Nat} (h : m ≤ n) : (madeCells z n).toList.take m = (madeCells z m).toList := by
  apply List.ext_getElem?
  intro j
  by_cases hj : j < m
  · rw [List.getElem?_take_of_lt hj, madeCells_get hj, madeCells_get (by omega)]
  · rw [List.getElem?_eq_none (by simp [size_madeCells]; omega), List.getElem?_eq_none (by simp [size_madeCells]; omega)]
theorem made_elem {z : Array Value} {k q : Nat} (h : q < k) : (((madeCells z (k * z.size)).toList.drop (q * z.size)).take z.size) = z.toList := by
  have hle : q * z.size + z.size ≤ k * z.size := by have := Nat.mul_le_mul_right z.size (show q + 1 ≤ k from h); rw [Nat.add_mul] at this; omega
  apply List.ext_getElem?
  intro j
  by_cases hj : j < z.size
  · rw [List.getElem?_take_of_lt hj, List.getElem?_drop, madeCells_get (by omega), Nat.add_comm, Nat.add_mul_mod_self_right, Nat.mod_eq_of_lt hj, Array.getElem?_toList]
    simp [hj]
  · rw [List.getElem?_eq_none (by simp [size_madeCells]; omega), List.getElem?_eq_none (by simp; omega)]
def BndIs (env : List AV) : Option Operand → Option Int → Prop
  | none, r => r = none
  | some b, r => ∃ k i, oprC env b = some (.int k i) ∧ r = some i
/-- How a slice stands: its type of elements, and its length. -/
def sliceIs (H : Heap) (t : Ty) (m : Nat) : CV → Prop
  | .vsl t' xs => t' = t ∧ m = xs.length
  | .ref h => match slotAt H h with | .row _ _ t' xs => t' = t ∧ m = xs.length | _ => False
  | .sub h _ l => match slotAt H h with | .row _ _ t' _ => t' = t ∧ m = l | _ => False
  | _ => False
section ops
variable (p : Pre L w0 w F0 F β H G n sl) (hE : ∀ x ∈ o.op.operands, OpOk F w β G env a x) (cx : CtxOk P C)
include p hE cx
/-- A slice: its length, how it is bound, and its elements' places. -/
theorem slice_of {c : CV} {t : Ty} {m : Nat} {u : Value} (hm : t.isMp = false) (r : RepV F w β G c u) (h : sliceIs H t m c) : ∃ A k, u = .slice A m k ∧ m ≤ k ∧ (m = 0 ∨ ∃ g o, A = some ⟨g, o, none⟩) := by
  cases c <;> simp only [sliceIs] at h
  · rename_i t' xs
    obtain ⟨rfl, rfl⟩ := h
    obtain ⟨A, cap, h1, h2, h3⟩ := r
    rw [hdr_sl hm] at h1
    simp at h1
    exact ⟨A, cap, h1, h2, h3.imp (fun e => by simp [e.1]) fun ⟨g, o, cells, hA, _⟩ => ⟨g, o, hA⟩⟩
  · rename_i hh
    split at h
    · rename_i l e t' xs hs
      obtain ⟨rfl, rfl⟩ := h
      have hG := p.slot hs (by simp)
      simp only [RepV, hG] at r
      obtain ⟨A, k, hu, hk, hA⟩ := row_val hm (p.good.slot r.1 hG)
      exact ⟨A, k, hu, hk, hA.imp (fun e => by simp [e]) id⟩
    · exact h.elim
  · rename_i hh o l
    split at h
    · rename_i lv e t' xs hs
      obtain ⟨rfl, rfl⟩ := h
      have hG := p.slot hs (by simp)
      simp only [RepV, hG] at r
      obtain ⟨h1, A, c, h2, h3, h4, _⟩ := r
      exact ⟨A, c, h2, h3, h4.imp id fun ⟨g, q, n, k, _, e⟩ => ⟨g, _, e⟩⟩
    · exact h.elim
theorem q_indexAddr {ty : TypeId} {x ix : Operand} {c q : CV} {k : IntKind} {i : Int} {m : Nat} {t : Ty} (ho : o.op = .indexAddr ty x ix) (hT : C.ty ty = some (.sl t)) (hmp : t.isMp = false) (h1 : oprC env x = some c) (h2 : oprC env ix = some (.int k i))
    (h3 : sliceIs H t m c) (h0 : 0 ≤ i) (hm : i < (m : Int))
    (h4 : ∀ u : Value, RepV F w β G c u → ∀ k g o, u = .slice (some ⟨g, o, none⟩) m k → RepV F w β G q (.pointer (some ⟨g, o + i.toNat * t.size, none⟩))) (hv : v = .one q) (hsl : sl = []) : QPost P (Bs L w0) F w β G n o a v sl := by
  subst hv hsl
  obtain ⟨d, i', z, tk⟩ := cx.ty _ _ hT
  obtain ⟨hd, ie, ze, ek⟩ := tk.sl _ rfl hmp
  subst hd
  have r := (hE x (by rw [ho]; simp [Op.operands])).cell h1
  have ei : a.eval ix = .int k i := (hE ix (by rw [ho]; simp [Op.operands])).cell h2
  obtain ⟨A, cp, hu, hle, hA⟩ := slice_of p hE cx hmp r h3
  rcases hA with hA | ⟨g, off, hA⟩
  · omega
  subst hA
  have hsz : (sizeOf (C.el t)).run P w = .ok t.size w := by simp [sizeOf, run_typeInfo w ek.info, ek.size]
  refine QPost.pure1 ?_ (h4 _ r _ _ _ hu) _
  have hadd : (⟨g, off, none⟩ : Addr).add (i.toNat * t.size) = ⟨g, off + i.toNat * t.size, none⟩ := Addr.add_mid ..
  simp [execOp, ho, hu, ei, Instr.indexAt, asIntOf, run_underlying tk.und, h0, hm, hsz, hadd]
theorem q_len {T : Ty} {x : Operand} {ty : TypeId} {args : Array Operand} {ats : Array TypeId} {c : CV} {m : Int} (ho : o.op = .call { callee := .builtin .len, args, argTypes := ats }) (ha : args[0]? = some x) (hty : ats[0]? = some ty) (hT : C.ty ty = some T) (h1 : oprC env x = some c) (h2 : lenOf T H c = some m) (hv : v = .one (.int .i64 m)) (hsl : sl = []) : QPost P (Bs L w0) F w β G n o a v sl := by
  subst hv hsl
  obtain ⟨d, i', z, tk⟩ := cx.ty _ _ hT
  have hx : x ∈ o.op.operands := by
    rw [ho]
    simp [Op.operands, Call.operands]
    exact Array.mem_of_getElem? ha
  have r := (hE x hx).cell h1
  have e0 : (args.map a.eval)[0]? = some (a.eval x) := by simp [ha]
  have key : (∃ s, T = .str ∧ a.eval x = .string s ∧ m = s.size) ∨ (∃ t A k, T = .sl t ∧ t.isMp = false ∧ a.eval x = .slice A m.toNat k ∧ 0 ≤ m) := by
    unfold lenOf at h2
    split at h2
    · injection h2 with h2
      exact .inl ⟨_, rfl, r, h2.symm⟩
    · rename_i t h o l
      split at h2
      · rename_i hs
        split at h2
        · simp at h2
        rename_i hmp
        injection h2 with h2
        subst h2
        have hG := p.slot hs (by simp)
        simp only [RepV, hG] at r
        obtain ⟨_, A, k, hv, _⟩ := r
        exact .inr ⟨t, A, k, rfl, hmp, by simpa using hv, by omega⟩
      · simp at h2
    · rename_i t c' hns
      simp only [Option.bind_eq_some_iff] at h2
      obtain ⟨⟨t', xs⟩, h2, h3⟩ := h2
      split at h3
      · simp at h3
      rename_i hmp
      split at h3
      · simp at h3
      rename_i hm'
      injection h3 with h3
      subst h3
      simp only at hm'
      unfold rowOf at h2
      split at h2
      · injection h2 with h2
        injection h2 with e1 e2
        subst e1
        simp at e2
        subst e2
        obtain ⟨A, cap, h1, _⟩ := r
        rw [hdr_sl hm'] at h1
        simp at h1
        exact .inr ⟨_, A, cap, rfl, hmp, by simpa using h1, by omega⟩
      · split at h2
        · rename_i hs
          injection h2 with h2
          injection h2 with e1 e2
          subst e1
          simp at e2
          subst e2
          have hG := p.slot hs (by simp)
          simp only [RepV, hG] at r
          obtain ⟨A, k, hu, _⟩ := row_val hm' (p.good.slot r.1 hG)
          exact .inr ⟨_, A, k, rfl, hmp, by simpa using hu, by omega⟩
        · simp at h2
      · exact (hns _ _ _ rfl).elim
      · simp at h2
    · simp at h2
  rcases key with ⟨s, rfl, hx, rfl⟩ | ⟨t, A, k, rfl, hmp, hx, hm⟩
  · have hd := tk.str rfl
    subst hd
    refine QPost.pure1 (v' := .int .i64 s.size) ?_ (by simp [RepV]) _
    simp [execOp, ho, resolve, invoke, builtin, Builtin.len_, hty, e0, hx, run_underlying tk.und, goInt]
  · obtain ⟨hd, _⟩ := tk.sl _ rfl hmp
    subst hd
    refine QPost.pure1 (v' := .int .i64 m) ?_ (by simp [RepV]) _
    simp [execOp, ho, resolve, invoke, builtin, Builtin.len_, hty, e0, hx, run_underlying tk.und, goInt]
    omega
theorem q_slice {ty : TypeId} {x : Operand} {lo hi : Option Operand} {lo' hi' : Option Int} {c q : CV} {m : Nat} {t : Ty} (ho : o.op = .slice ty x lo hi none) (hT : C.ty ty = some (.sl t)) (hmp : t.isMp = false) (h1 : oprC env x = some c)
    (hlo : BndIs env lo lo') (hhi : BndIs env hi hi')
    (h3 : sliceIs H t m c) (h0 : chkS lo' hi' m = true)
    (h4 : ∀ u : Value, RepV F w β G c u → ∀ A k, u = .slice A m k → m ≤ k → RepV F w β G q (.slice (if k = (lo'.getD 0).toNat then A else A.map (·.add ((lo'.getD 0).toNat * t.size))) ((hi'.getD m).toNat - (lo'.getD 0).toNat) (k - (lo'.getD 0).toNat))) (hv : v = .one q) (hsl : sl = []) : QPost P (Bs L w0) F w β G n o a v sl := by
  subst hv hsl
  obtain ⟨d, i', z, tk⟩ := cx.ty _ _ hT
  obtain ⟨hd, ie, ze, ek⟩ := tk.sl _ rfl hmp
  subst hd
  have r := (hE x (by rw [ho]; simp [Op.operands])).cell h1
  obtain ⟨A, cp, hu, hle, hA⟩ := slice_of p hE cx hmp r h3
  have hsz : (sizeOf (C.el t)).run P w = .ok t.size w := by simp [sizeOf, run_typeInfo w ek.info, ek.size]
  refine QPost.pure1 ?_ (h4 _ r _ _ hu hle) _
  have hr : (execOp a.eval o).run P w = ((Instr.sliceAt ty (a.eval x) (lo.map a.eval) (hi.map a.eval) none).run P w).andThen fun v w => .ok (.value v) w := by
    simp [execOp, ho]
  rw [hr, hu]
  have hb : (Instr.sliceBounds true m cp (lo.map a.eval) (hi.map a.eval) none).run P w = .ok ((lo'.getD 0).toNat, (hi'.getD m).toNat, cp) w := by
    cases lo with
    | none =>
      have hlo : lo' = none := hlo
      subst hlo
      cases hi with
      | none =>
        have hhi : hi' = none := hhi
        subst hhi
        simp [Instr.sliceBounds]
      | some b =>
        obtain ⟨k, i, hb, rfl⟩ := hhi
        have eb : a.eval b = .int k i := (hE b (by rw [ho]; simp [Op.operands])).cell hb
        simp [chkS] at h0
        have e1 : i ≤ (cp : Int) := by omega
        simp [Instr.sliceBounds, eb, Instr.sliceBound, asIntOf, h0.1, e1]
    | some b =>
      obtain ⟨k, i, hb, rfl⟩ := hlo
      have eb : a.eval b = .int k i := (hE b (by rw [ho]; simp [Op.operands])).cell hb
      cases hi with
      | none =>
        have hhi : hi' = none := hhi
        subst hhi
        simp [chkS] at h0
        simp [Instr.sliceBounds, eb, Instr.sliceBound, asIntOf, h0.1, h0.2]
      | some b2 =>
        obtain ⟨k2, i2, hb2, rfl⟩ := hhi
        have eb2 : a.eval b2 = .int k2 i2 := (hE b2 (by rw [ho]; simp [Op.operands])).cell hb2
        simp [chkS] at h0
        have e0 : 0 ≤ i2 := by omega
        have e1 : i2 ≤ (cp : Int) := by omega
        have e2 : (i2.toNat : Int) = i2 := by omega
        simp [Instr.sliceBounds, eb, eb2, Instr.sliceBound, asIntOf, h0.1, h0.2, e0, e1, e2]
  simp [Instr.sliceAt, run_underlying tk.und, Instr.slice, hb, hsz]
/-- A new array. -/
theorem q_allocArr {e : TypeId} {q : Nat × Ty} (ho : o.op = .alloc e) (ht : C.arr e = some q) (hv : v = .one (.ptr n 0 0)) (hsl : sl = [.row true e q.2 (List.replicate q.1 q.2.dflt)]) : QPost P (Bs L w0) F w β G n o a v sl := by
  subst hv hsl
  obtain ⟨m, t⟩ := q
  obtain ⟨el, i, ie, z, ak⟩ := cx.arr _ _ _ ht
  have hmax := ak.max
  have hr : (execOp a.eval o).run P w = .ok (.value (.pointer (some ⟨w.heap.size, 0, none⟩))) (w.alloc (.cells z.cells e)) := by
    simp [execOp, ho, Instr.alloc, run_zero ak.info ak.zero, run_newVar]
  refine ⟨_, _, [.slice (some ⟨w.heap.size, 0, none⟩) m m], hr, rfl, ⟨below_alloc' _, fun h => by simp at h⟩, fun q u g hu hg => ?_, fun β' hb hβ => ?_⟩
  · cases q with
    | zero => simp at hu; subst hu; simp [blk] at hg; subst hg; exact ⟨rfl, Nat.le_refl _, by simp⟩
    | succ q => simp at hu
  · have hG := p.new 0 _ rfl
    have h0' := hβ 0 _ rfl
    rw [Nat.add_zero] at hG h0'
    refine ⟨fun q s u hs hu => ?_, ?_⟩
    · cases q with
      | zero =>
        simp at hs hu
        subst hs hu
        refine ⟨⟨z.cells.toList, (owns_sl ak.mp).2 (own_of ⟨by rw [Array.length_toList, ak.zsize, List.length_replicate], .inr ⟨w.heap.size, m, _, by rw [List.length_replicate], Nat.zero_le _, alloc_at _, by rw [List.length_replicate]; exact Nat.le_refl _, by simp [maxLen]; omega, by rw [ak.zsize], ?_⟩⟩), ak.rep F _⟩, fun g hg => ?_⟩
        · rw [List.length_replicate, ← ak.zsize, ← Array.length_toList, List.take_length]
        · simp [blk] at hg
          subst hg
          exact ⟨.inl p.good.below.size, not_F p⟩
      | succ q => simp at hs
    · simp only [RepA, RepV, RepPtr, hG]
      exact ⟨⟨ak.mp, by rw [List.length_replicate]; exact ak.pos⟩, _, _, _, _, h0', by simp⟩
/-- An array's place. -/
theorem q_indexArr {ty : TypeId} {x ix : Operand} {k : IntKind} {i : Int} {h : Nat} {lv : Bool} {e : TypeId} {t : Ty} {xs : List t.den} {m : Nat} (ho : o.op = .indexAddr ty x ix) (ht : C.arr ty = some (m, t)) (h1 : oprC env x = some (.ptr h 0 0)) (h2 : oprC env ix = some (.int k i)) (hs : slotAt H h = .row lv e t xs)
    (h0 : 0 ≤ i) (hm : i < (xs.length : Int)) (hm2 : i < (m : Int)) (hv : v = .one (.ptr h i.toNat 0)) (hsl : sl = []) : QPost P (Bs L w0) F w β G n o a v sl := by
  subst hv hsl
  obtain ⟨el, it, ie, z, ak⟩ := cx.arr _ _ _ ht
  have r := (hE x (by rw [ho]; simp [Op.operands])).cell h1
  have ei : a.eval ix = .int k i := (hE ix (by rw [ho]; simp [Op.operands])).cell h2
  have hG := p.slot hs (by simp)
  simp only [RepV, RepPtr, hG] at r
  obtain ⟨_, g, o', n', c', hb, hu⟩ := r
  have hsz : (sizeOf el).run P w = .ok t.size w := by simp [sizeOf, run_typeInfo w ak.elem, ak.size]
  refine QPost.pure1 (v' := .pointer (some ⟨g, o' + i.toNat * t.size, none⟩)) ?_ ?_ _
  · have hadd : (⟨g, o', none⟩ : Addr).add (i.toNat * t.size) = ⟨g, o' + i.toNat * t.size, none⟩ := Addr.add_mid ..
    have hu' : a.eval x = .pointer (some ⟨g, o', none⟩) := by rw [hu]; simp
    simp [execOp, ho, hu', ei, Instr.indexAt, asIntOf, run_underlying ak.und, Instr.sureAddr, h0, hm2, hsz, hadd]
  · simp only [RepV, RepPtr, hG]
    exact ⟨⟨ak.mp, by omega⟩, g, o', n', c', hb, by simp⟩
theorem q_makeSlice {ty : TypeId} {l c : Operand} {k1 k2 : IntKind} {i j : Int} {t : Ty} (ho : o.op = .makeSlice ty l c) (hT : C.ty ty = some (.sl t)) (hmp : t.isMp = false) (h1 : oprC env l = some (.int k1 i)) (h2 : oprC env c = some (.int k2 j))
    (h0 : 0 ≤ i) (hij : i ≤ j) (hj : j < 1099511627776) (hv : v = .one (.ref n)) (hsl : sl = [.row true (C.el t) t (List.replicate i.toNat t.dflt)]) : QPost P (Bs L w0) F w β G n o a v sl := by
  subst hv hsl
  obtain ⟨d, i', z', tk⟩ := cx.ty _ _ hT
  obtain ⟨hd, ie, z, ek⟩ := tk.sl _ rfl hmp
  subst hd
  have e1 : a.eval l = .int k1 i := (hE l (by rw [ho]; simp [Op.operands])).cell h1
  have e2 : a.eval c = .int k2 j := (hE c (by rw [ho]; simp [Op.operands])).cell h2
  have hb := ek.bytes
  have hr : (execOp a.eval o).run P w = .ok (.value (.slice (some ⟨w.heap.size, 0, none⟩) i.toNat j.toNat)) (w.alloc (.cells (madeCells z.cells (j.toNat * ie.size)) (C.el t))) := by
    have hbj : (ie.bytes : Int) * j ≤ 281474976710656 := by
      have : (ie.bytes : Int) * j ≤ 64 * j := Int.mul_le_mul_of_nonneg_right (by omega) (by omega)
      omega
    simp [execOp, ho, e1, e2, run_make w ty (C.el t) ie z tk.und ek.info ek.zero k1 k2 i j h0 hij hbj (by omega)]
  refine ⟨_, _, [.slice (some ⟨w.heap.size, 0, none⟩) i.toNat j.toNat], hr, rfl, ⟨below_alloc' _, fun h => by simp at h⟩, fun q u g hu hg => ?_, fun β' hb hβ => ?_⟩
  · cases q with
    | zero => simp at hu; subst hu; simp [blk] at hg; subst hg; exact ⟨rfl, Nat.le_refl _, by simp⟩
    | succ q => simp at hu
  · have hG := p.new 0 _ rfl
    have h0' := hβ 0 _ rfl
    rw [Nat.add_zero] at hG h0'
    refine ⟨fun q s u hs hu => ?_, ?_⟩
    · cases q with
      | zero =>
        simp at hs hu
        subst hs hu
        refine ⟨⟨(madeCells z.cells (i.toNat * t.size)).toList, (owns_sl hmp).2 (own_of ⟨by simp [size_madeCells], .inr ⟨w.heap.size, j.toNat, _, by simp, Nat.zero_le _, alloc_at _, by simp; omega, by simp [maxLen]; omega, by simp [size_madeCells, ek.size], ?_⟩⟩), ?_⟩, fun g hg => ?_⟩
        · rw [List.length_replicate, ek.size, made_take (Nat.mul_le_mul_right _ (by omega))]
        · refine ⟨by simp [size_madeCells], fun q x hq => ?_⟩
          have hlt := (List.getElem?_eq_some_iff.1 hq).1
          rw [List.length_replicate] at hlt
          rw [List.getElem?_replicate_of_lt hlt] at hq
          injection hq with hq
          subst hq
          have := made_elem (z := z.cells) hlt
          rw [ek.zsize] at this
          rw [this]
          exact ek.rep _ _
        · simp [blk] at hg
          subst hg
          exact ⟨.inl p.good.below.size, not_F p⟩
      | succ q => simp at hs
    · simp only [RepA, RepV, hG]
      exact ⟨h0', rfl⟩
end ops
end
end Go.Proofs.Ytanpdkllnmeenaa.Am
namespace Go.Proofs.Ytanpdkllnmeenaa.Am
open Go Go.RowKit
set_option linter.unusedVariables false
set_option linter.unusedSectionVars false
set_option linter.unusedSimpArgs false
theorem setAt_eq : ∀ (us : List CV) (cs : List CV) (off : Nat), off + us.length ≤ cs.length → setAt cs off us = cs.take off ++ us ++ cs.drop (off + us.length)
  | [], cs, off, h => by simp [setAt]
  | c :: r, cs, off, h => by
    simp only [List.length_cons] at h ⊢
    rw [setAt, setAt_eq r _ _ (by rw [List.length_set]; omega)]
    have h1 : (cs.set off c).take (off + 1) = cs.take off ++ [c] := by
      rw [List.take_succ_eq_append_getElem (by rw [List.length_set]; omega), List.take_set_of_le (Nat.le_refl _), List.getElem_set_self]
    rw [h1, List.drop_set_of_lt (by omega), show off + 1 + r.length = off + (r.length + 1) by omega]
    simp
theorem fold_set_eq (off : Nat) : ∀ (l : List Value) (k : Nat) (cells : Array Value), off + k + l.length ≤ cells.size →
    ((l.zipIdx k).foldl (fun cs (p : Value × Nat) => cs.setIfInBounds (off + p.2) p.1) cells).toList = cells.toList.take (off + k) ++ l ++ cells.toList.drop (off + k + l.length)
  | [], k, cells, h => by simp
  | v :: r, k, cells, h => by
    simp only [List.length_cons] at h ⊢
    rw [List.zipIdx_cons, List.foldl_cons, fold_set_eq off r (k + 1) _ (by simp; omega)]
    have h1 : (cells.setIfInBounds (off + k) v).toList.take (off + (k + 1)) = cells.toList.take (off + k) ++ [v] := by
      rw [Array.toList_setIfInBounds, show off + (k + 1) = (off + k) + 1 by omega, List.take_succ_eq_append_getElem (by rw [List.length_set]; simp; omega), List.take_set_of_le (Nat.le_refl _), List.getElem_set_self]
    rw [h1, Array.toList_setIfInBounds, List.drop_set_of_lt (by omega), show off + (k + 1) + r.length = off + k + (r.length + 1) by omega]
    simp
theorem zip_fold (off : Nat) (vs cells : Array Value) (h : off + vs.size ≤ cells.size) :
    (vs.zipIdx.foldl (fun cs (p : Value × Nat) => cs.setIfInBounds (off + p.2) p.1) cells).toList = cells.toList.take off ++ vs.toList ++ cells.toList.drop (off + vs.size) := by
  rw [← Array.foldl_toList, Array.toList_zipIdx, fold_set_eq off _ 0 _ (by simpa using h)]
  simp
theorem All2.patch {α β : Type} {R : α → β → Prop} {cs : List α} {vs : List β} {us : List α} {ws : List β} (h : All2 R cs vs) (k : All2 R us ws) (off : Nat) :
    All2 R (cs.take off ++ us ++ cs.drop (off + us.length)) (vs.take off ++ ws ++ vs.drop (off + ws.length)) := by
  rw [k.length]
  exact ((h.take off).append k).append (h.drop _)
section
variable {P : Program} {C : Ctx} {F : Nat → Prop} {w : World} {β β' : Bd} {H G : Heap}
variable {L : Nat → Prop} {w0 : World} {F0 : Nat → Prop} {n : Nat} {sl : List Slot} {env : List AV} {a : Act} {o : Oper} {v : AV}
theorem fill_ok (cx : CtxOk P C) {t : TypeId} {fields : Array Field} {pl : List (Nat × Nat)} (hu : P.underlying t = some (.struct fields)) (hp : fields.toList.mapM (fun f => (P.info? f.type).map fun i => (f.offset, i.size)) = some pl) :
    ∀ (parts : List (Nat × Operand)) (cs : List CV) (cells : Array Value) {cs' : List CV}, (∀ q ∈ parts, OpOk F w β G env a q.2) → foldB H C t env parts cs = some cs' → All2 (RepV F w β G) cs cells.toList →
      ∃ cells', Instr.fill (pl.toArray[·]?) cells (parts.map fun q => (q.1, a.eval q.2)) = some cells' ∧ All2 (RepV F w β G) cs' cells'.toList
  | [], cs, cells, cs', _, h, r => by
    simp [foldB] at h
    subst h
    exact ⟨cells, rfl, r⟩
  | (i, x) :: rest, cs, cells, cs', hE, h, r => by
    simp only [foldB, Option.bind_eq_some_iff] at h
    obtain ⟨fl, h1, v, h2, us, h3, h4⟩ := h
    split at h4
    case isFalse => simp at h4
    rename_i hc
    obtain ⟨fields', fd, i', d, pl', fk⟩ := cx.fld _ _ _ h1
    have e1 : fields' = fields := by have := fk.und; rw [hu] at this; simpa using this.symm
    subst e1
    have e2 : pl' = pl := by have := fk.places; rw [hp] at this; simpa using this.symm
    subst e2
    have hx := cells_ok h3 (hE (i, x) (by simp) _ h2)
    have hl := hx.length
    have hls := r.length
    simp only [Array.length_toList] at hl hls
    have hz := zip_fold fl.off (a.eval x).cells cells (by omega)
    have hr : All2 (RepV F w β G) (setAt cs fl.off us) ((a.eval x).cells.zipIdx.foldl (fun cs (p : Value × Nat) => cs.setIfInBounds (fl.off + p.2) p.1) cells).toList := by
      rw [hz, setAt_eq _ _ _ (by omega)]
      have := r.patch hx fl.off
      rwa [Array.length_toList] at this
    obtain ⟨cells', h5, h6⟩ := fill_ok cx hu hp rest _ _ (fun q hq => hE q (by simp [hq])) h4 hr
    refine ⟨cells', ?_, h6⟩
    have hpl : (pl'.toArray[i]? : Option (Nat × Nat)) = some (fl.off, fl.size) := by simpa using fk.place
    simp only [List.map_cons, Instr.fill, hpl]
    rw [if_neg (by simp; omega)]
    exact h5
section ops
variable (p : Pre L w0 w F0 F β H G n sl) (hE : ∀ x ∈ o.op.operands, OpOk F w β G env a x) (cx : CtxOk P C)
include p hE cx
theorem q_build {t : TypeId} {T : Ty} {fl0 : Fld} {parts : Array (Nat × Operand)} {cs cs' : List CV} (ho : o.op = .build t parts) (hf : C.fld t 0 = some fl0) (hT : C.ty t = some T) (h1 : foldB H C t env parts.toList (zeroC T) = some cs)
    (h2 : fixC C.el T cs n = (cs', sl, [])) (hv : v = .agg cs') : QPost P (Bs L w0) F w β G n o a v sl := by
  subst hv
  obtain ⟨d, i', z, tk⟩ := cx.ty _ _ hT
  obtain ⟨fields, fd, i, d', pl, fk⟩ := cx.fld _ _ _ hf
  have hn := fixC_nils (el := C.el) T cs n
  rw [h2] at hn
  have hmem : ∀ q ∈ parts.toList, q.2 ∈ o.op.operands := fun q hq => by
    rw [ho]
    simp only [Op.operands, List.mem_toArray, List.mem_map]
    exact ⟨q, hq, rfl⟩
  have key : ∀ β' : Bd, (∀ h u, β h = some u → β' h = some u) → ∃ cells', Instr.fill (pl.toArray[·]?) z.cells (parts.toList.map fun q => (q.1, a.eval q.2)) = some cells' ∧ All2 (RepV F w β' G) cs cells'.toList := fun β' hb =>
    fill_ok cx fk.und fk.places parts.toList (zeroC T) z.cells (fun q hq v hv => (hE q.2 (hmem q hq) v hv).mono (keeps_ext hb fun _ _ => rfl)) h1 (tk.rep F w β' G)
  obtain ⟨cells', hfill, _⟩ := key β fun _ _ h => h
  have hb : P.built t (parts.map fun q => (q.1, a.eval q.2)).toList = some cells' := by
    simp only [Program.built, tk.info, fk.und, tk.zero, fk.places, Array.toList_map]
    exact hfill
  refine ⟨.agg cells', w, List.replicate sl.length (.slice none 0 0), ?_, by simp, ⟨Below.refl _ _, fun _ => rfl⟩, fun j u g hu hg => (nils_blk hu hg).elim, fun β' hb' hβ => ⟨fun j s u hs hu => hn.slots hs hu, ?_⟩⟩
  · have := run_build w t (parts.map fun q => (q.1, a.eval q.2)) cells' hb
    simp [execOp, ho, this]
  · obtain ⟨c2, hf2, r⟩ := key β' hb'
    rw [hfill] at hf2
    injection hf2 with hf2
    subst hf2
    have hat : AtN β' G n sl := nils_at hn rfl p.new hβ
    have := fixC_ok (el := C.el) (T := T) (n := n) r (by rw [h2]; exact hat)
    rw [h2] at this
    obtain ⟨v1, v2, e, r1, r2⟩ := this
    cases r2
    exact ⟨cells', rfl, by rw [e, List.append_nil]; exact r1⟩
end ops
theorem fillS_ok {e : Ty} {k : Nat} :
    ∀ (parts : List (Nat × Operand)) (xs : List e.den) (cells : Array Value) {xs' : List e.den}, (∀ q ∈ parts, OpOk F w β G env a q.2) → foldS H e env parts xs = some xs' → RowC (RepC F w e) e.size xs cells.toList → xs.length = k →
      ∃ cells', Instr.fill (fun i => some (i * e.size, e.size)) cells (parts.map fun q => (q.1, a.eval q.2)) = some cells' ∧ RowC (RepC F w e) e.size xs' cells'.toList ∧ xs'.length = k
  | [], xs, cells, xs', _, h, r, hk => by
    simp [foldS] at h
    subst h
    exact ⟨cells, rfl, r, hk⟩
  | (i, x) :: rest, xs, cells, xs', hE, h, r, hk => by
    simp only [foldS, Option.bind_eq_some_iff] at h
    obtain ⟨v, h2, us, h3, y, h4, h5⟩ := h
    split at h5
    case isFalse => simp at h5
    rename_i hi
    have hx := rep_unflat1 h4 (cells_ok h3 (hE (i, x) (by simp) _ h2))
    have hl := hx.len
    have hle : i * e.size + e.size ≤ cells.size := by
      have := Nat.mul_le_mul_right e.size (show i + 1 ≤ xs.length from hi)
      have h := r.1
      rw [Nat.add_mul] at this
      simp only [Array.length_toList] at h
      omega
    have hz := zip_fold (i * e.size) (a.eval x).cells cells (by simp at hl; omega)
    have hr : RowC (RepC F w e) e.size (xs.set i y) ((a.eval x).cells.zipIdx.foldl (fun cs (p : Value × Nat) => cs.setIfInBounds (i * e.size + p.2) p.1) cells).toList := by
      have := r.set hi hl hx
      rw [hz]
      simp only [Array.length_toList] at hl
      rw [hl]
      exact this
    obtain ⟨cells', h6, h7, h8⟩ := fillS_ok rest _ _ (fun q hq => hE q (by simp [hq])) h5 hr (by simpa using hk)
    refine ⟨cells', ?_, h7, h8⟩
    simp only [Array.length_toList] at hl
    simp only [List.map_cons, Instr.fill]
    rw [if_neg (by simp; omega)]
    exact h6
theorem row_made {e : TypeId} {t : Ty} {ie : TypeInfo} {z : Value} (ek : EOk P e t ie z) (F : Nat → Prop) (w : World) (k : Nat) : RowC (RepC F w t) t.size (List.replicate k t.dflt) (madeCells z.cells (k * t.size)).toList := by
  refine ⟨by simp [size_madeCells], fun q x hq => ?_⟩
  have hlt := (List.getElem?_eq_some_iff.1 hq).1
  rw [List.length_replicate] at hlt
  rw [List.getElem?_replicate_of_lt hlt] at hq
  injection hq with hq
  subst hq
  have := made_elem (z := z.cells) hlt
  rw [ek.zsize] at this
  rw [this]
  exact ek.rep _ _
section ops
variable (p : Pre L w0 w F0 F β H G n sl) (hE : ∀ x ∈ o.op.operands, OpOk F w β G env a x) (cx : CtxOk P C)
include p hE cx
theorem q_buildSlice {ty : TypeId} {t : Ty} {len : Nat} {parts : Array (Nat × Operand)} {xs : List t.den} (ho : o.op = .buildSlice ty len parts) (hT : C.ty ty = some (.sl t)) (hmp : t.isMp = false) (h1 : foldS H t env parts.toList (List.replicate len t.dflt) = some xs)
    (h2 : len * t.size ≤ 16777216) (hv : v = .one (.ref n)) (hsl : sl = [.row true (C.el t) t xs]) : QPost P (Bs L w0) F w β G n o a v sl := by
  subst hv hsl
  obtain ⟨d, i', z', tk⟩ := cx.ty _ _ hT
  obtain ⟨hd, ie, z, ek⟩ := tk.sl _ rfl hmp
  subst hd
  have hmem : ∀ q ∈ parts.toList, q.2 ∈ o.op.operands := fun q hq => by
    rw [ho]
    simp only [Op.operands, List.mem_toArray, List.mem_map]
    exact ⟨q, hq, rfl⟩
  obtain ⟨cells', hf, hr, hlen⟩ := fillS_ok parts.toList _ (madeCells z.cells (len * t.size)) (fun q hq => hE q.2 (hmem q hq)) h1 (row_made ek F w len) (List.length_replicate ..)
  have hrun : (execOp a.eval o).run P w = .ok (.value (.slice (some ⟨w.heap.size, 0, none⟩) len len)) (w.alloc (.cells cells' (C.el t))) := by
    have hsz : (sizeOf (C.el t)).run P w = .ok t.size w := by simp [sizeOf, run_typeInfo w ek.info, ek.size]
    have hle : ¬ (2 ^ 24 < len * t.size) := by omega
    have e0 : (parts.map fun q => (q.1, a.eval q.2)).toList = parts.toList.map fun q => (q.1, a.eval q.2) := by simp
    by_cases hz : len * t.size = 0
    · have hm : (Array.range (len * t.size)).map (fun i => (#[] : Array Value)[i % (#[] : Array Value).size]!) = madeCells z.cells (len * t.size) := by rw [hz]; simp [madeCells]
      have hf' := hf
      rw [← hm, ← e0] at hf'
      simp only [execOp, ho, Instr.buildSlice, run_underlying tk.und, hsz, Sem.run_bind, Sem.run_pure, Result.andThen_ok, Sem.run_ite, hz, if_false, if_true, gt_iff_lt, Nat.not_lt_zero]
      rw [hz] at hf'
      simp only [hf', run_newRow, Result.andThen_ok, Sem.run_pure, Sem.run_bind]
    · have hf' := hf
      rw [← e0] at hf'
      simp only [execOp, ho, Instr.buildSlice, run_underlying tk.und, hsz, Sem.run_bind, Sem.run_pure, Result.andThen_ok, Sem.run_ite, hle, if_false, hz, gt_iff_lt, run_zero ek.info ek.zero]
      simp only [madeCells] at hf'
      simp only [hf', run_newRow, Result.andThen_ok, Sem.run_pure, Sem.run_bind]
  refine ⟨_, _, [.slice (some ⟨w.heap.size, 0, none⟩) len len], hrun, rfl, ⟨below_alloc' _, fun h => by simp at h⟩, fun q u g hu hg => ?_, fun β' hb hβ => ?_⟩
  · cases q with
    | zero => simp at hu; subst hu; simp [blk] at hg; subst hg; exact ⟨rfl, Nat.le_refl _, by simp⟩
    | succ q => simp at hu
  · have hG := p.new 0 _ rfl
    have h0' := hβ 0 _ rfl
    rw [Nat.add_zero] at hG h0'
    refine ⟨fun q s u hs hu => ?_, ?_⟩
    · cases q with
      | zero =>
        simp at hs hu
        subst hs hu
        have hc := hr.1
        rw [hlen] at hc
        have hm : len ≤ maxLen := by have := ek.pos; have := Nat.le_mul_of_pos_right len this; simp [maxLen]; omega
        refine ⟨⟨cells'.toList, (owns_sl hmp).2 (own_of ⟨by rw [hlen]; exact hc, .inr ⟨w.heap.size, len, _, by rw [hlen], Nat.zero_le _, alloc_at _, by omega, hm, by simpa using hc, ?_⟩⟩), ?_⟩, fun g hg => ?_⟩
        · rw [hlen, List.take_of_length_le (by omega)]
        · exact hr.mono fun _ _ => RepC.mono (fun _ h => h) (fun g hg => (below_alloc' _).block g (p.good.fsz g hg))
        · simp [blk] at hg
          subst hg
          exact ⟨.inl p.good.below.size, not_F p⟩
      | succ q => simp at hs
    · simp only [RepA, RepV, hG]
      exact ⟨h0', rfl⟩
end ops
end
end Go.Proofs.Ytanpdkllnmeenaa.Am
namespace Go.Proofs.Ytanpdkllnmeenaa.Am
open Go Go.RowKit
set_option linter.unusedVariables false
set_option linter.unusedSectionVars false
set_option linter.unusedSimpArgs false
section
variable {P : Program} {C : Ctx} {F : Nat → Prop} {w : World} {β β' : Bd} {H G : Heap}
variable {L : Nat → Prop} {w0 : World} {F0 : Nat → Prop} {n : Nat} {sl : List Slot} {env : List AV} {a : Act} {o : Oper} {v : AV}
theorem flat_len {α : Type} {f : α → List Value} {n : Nat} : ∀ {l : List α}, (∀ x ∈ l, (f x).length = n) → ((l.map f).flatten).length = l.length * n
  | [], _ => by simp
  | x :: l, h => by
    rw [List.map_cons, List.flatten_cons, List.length_append, h x (by simp), flat_len (l := l) fun y hy => h y (by simp [hy]), List.length_cons, Nat.add_mul]
    omega
theorem flat_at {α : Type} {f : α → List Value} {n : Nat} : ∀ {l : List α} {i : Nat} {x : α}, (∀ x ∈ l, (f x).length = n) → l[i]? = some x → ((((l.map f).flatten).drop (i * n)).take n) = f x
  | [], i, x, _, h => by simp at h
  | y :: l, 0, x, hn, h => by
    simp at h
    subst h
    have := hn y (by simp)
    rw [Nat.zero_mul, List.drop_zero, List.map_cons, List.flatten_cons, ← this, List.take_left']
    rfl
  | y :: l, i + 1, x, hn, h => by
    have := hn y (by simp)
    rw [List.map_cons, List.flatten_cons, Nat.add_mul, Nat.one_mul, Nat.add_comm, ← List.drop_drop, List.drop_append_of_le_length (by omega), List.drop_of_length_le (l := f y) (by omega), List.nil_append]
    exact flat_at (fun z hz => hn z (by simp [hz])) (by simpa using h)
theorem ent_cells {k : IntKind} {v : Ty} {e : MapEntry} {x : Unit × Int × v.den} : EntR F w k v e x ↔ RepC F w (.mpe k v) x (entCells v.isAgg e) ∧ (v.isAgg = true → ∃ a, e.val = .agg a) := by
  constructor
  · rintro ⟨h1, h2⟩
    unfold ValR at h2
    cases hv : v.isAgg with
    | true =>
      simp only [hv] at h2
      obtain ⟨a, h3, h4⟩ := h2
      refine ⟨⟨[], _, rfl, rfl, ⟨[.int k x.2.1], a.toList, ?_, rfl, h4⟩⟩, fun _ => ⟨a, h3⟩⟩
      simp [entCells, h1, h3]
    | false =>
      simp only [hv] at h2
      refine ⟨⟨[], _, rfl, rfl, ⟨[.int k x.2.1], [e.val], ?_, rfl, h2⟩⟩, fun h => by simp at h⟩
      simp [entCells, h1]
  · rintro ⟨⟨c1, c2, h1, h2, d1, d2, h3, h4, h5⟩, h6⟩
    have h2' : c1 = [] := h2
    have h4' : d1 = [.int k x.2.1] := h4
    subst h2' h4' h3
    unfold EntR ValR
    cases hv : v.isAgg with
    | true =>
      obtain ⟨a, h7⟩ := h6 hv
      simp [entCells, hv, h7] at h1
      exact ⟨h1.1, a, h7, by rw [h1.2]; exact h5⟩
    | false =>
      simp [entCells, hv] at h1
      exact ⟨h1.1, by simp only; rw [h1.2]; exact h5⟩
theorem ent_len {k : IntKind} {v : Ty} {e : MapEntry} {x : Unit × Int × v.den} (h : EntR F w k v e x) : (entCells v.isAgg e).length = (Ty.mpe k v).size := (ent_cells.1 h).1.len
theorem mpe_size (k : IntKind) (v : Ty) : 0 < (Ty.mpe k v).size := by simp only [Ty.size]; omega
/-- A map, as it lies there. -/
theorem lies_map {k : IntKind} {v : Ty} {g o : Nat} {cells : List Value} {xs : List (Unit × Int × v.den)} (h : Lies (.mpe k v) w g o cells) (hr : RowC (RepC F w (.mpe k v)) (Ty.mpe k v).size xs cells) : ∃ arr, w.heap[g]? = some (.map arr arr.size) ∧ MapR F w k v arr xs := by
  simp only [Lies, Ty.isMp] at h
  obtain ⟨arr, h1, h2, h3⟩ := h
  have hl : ∀ e ∈ arr.toList, (entCells v.isAgg e).length = (Ty.mpe k v).size := fun e he => by
    obtain ⟨i, hi⟩ := List.getElem?_of_mem he
    exact (h2 i e (by rwa [Array.getElem?_toList] at hi)).2.1
  have hlen : arr.toList.length = xs.length := by
    have e1 := hr.1
    rw [h3] at e1
    have e2 := flat_len (f := entCells v.isAgg) hl
    have e3 : arr.toList.length * (Ty.mpe k v).size = xs.length * (Ty.mpe k v).size := by rw [← e2]; exact e1
    exact Nat.eq_of_mul_eq_mul_right (mpe_size k v) e3
  refine ⟨arr, h1, fun i e he => (h2 i e he).1, All2.of_get hlen fun i e x he hx => ?_⟩
  have he' : arr[i]? = some e := by rwa [Array.getElem?_toList] at he
  have := hr.2 i x hx
  rw [h3, show (mpAgg (.pair .unit (.pair (.int k) v))) = v.isAgg from rfl, flat_at (f := entCells v.isAgg) hl he] at this
  exact ent_cells.2 ⟨this, (h2 i e he').2.2⟩
theorem map_lies {k : IntKind} {v : Ty} {g o : Nat} {arr : Array MapEntry} {xs : List (Unit × Int × v.den)} (h : w.heap[g]? = some (.map arr arr.size)) (hr : MapR F w k v arr xs) : ∃ cells, Lies (.mpe k v) w g o cells ∧ RowC (RepC F w (.mpe k v)) (Ty.mpe k v).size xs cells := by
  obtain ⟨hb, ha⟩ := hr
  have hl : ∀ e ∈ arr.toList, (entCells v.isAgg e).length = (Ty.mpe k v).size := fun e he => by
    obtain ⟨i, hi⟩ := List.getElem?_of_mem he
    obtain ⟨x, _, h⟩ := ha.get hi
    exact ent_len h
  refine ⟨(arr.toList.map (entCells v.isAgg)).flatten, ?_, ?_, fun i x hx => ?_⟩
  · simp only [Lies, Ty.isMp]
    refine ⟨arr, h, fun i e he => ?_, rfl⟩
    have he' : arr.toList[i]? = some e := by rwa [Array.getElem?_toList]
    obtain ⟨x, _, h⟩ := ha.get he'
    exact ⟨hb i e he, ent_len h, (ent_cells.1 h).2⟩
  · rw [flat_len hl, ha.length]
  · obtain ⟨e, he, h⟩ := ha.getR hx
    rw [flat_at hl he]
    exact (ent_cells.1 h).1
/-! What is found. -/
theorem find_ok {k : IntKind} {v : Ty} {m : Int} : ∀ {l : List MapEntry} {xs : List (Unit × Int × v.den)} (j : Nat), All2 (EntR F w k v) l xs →
    (mhas xs m = false ∧ Instr.findNow (.int k) (.int k m) l j = some none ∧ (∀ d, mget d xs m = d) ∧ ∀ y, mset xs m y = xs ++ [((), m, y)]) ∨
    (mhas xs m = true ∧ ∃ i e x, l[i]? = some e ∧ xs[i]? = some x ∧ EntR F w k v e x ∧ x.2.1 = m ∧ Instr.findNow (.int k) (.int k m) l j = some (some (j + i, e.val)) ∧ (∀ d, mget d xs m = x.2.2) ∧ ∀ y, mset xs m y = xs.set i ((), m, y))
  | [], _, j, .nil => .inl ⟨rfl, rfl, fun _ => rfl, fun _ => rfl⟩
  | e :: l, _, j, @All2.cons _ _ _ _ x _ xs h t => by
    have hk := h.1
    by_cases hx : x.2.1 = m
    · refine .inr ⟨by simp [mhas, hx], 0, e, x, rfl, rfl, h, hx, ?_, fun d => by simp [mget, hx], fun y => by simp [mset, hx]⟩
      simp [Instr.findNow, hk, Instr.sameNow, hx]
    · have hne : (m == x.2.1) = false := by simp; exact fun e => hx e.symm
      rcases find_ok (j + 1) t with ⟨h1, h2, h3, h4⟩ | ⟨h1, i, e', x', a1, a2, a3, a4, a5, a6, a7⟩
      · refine .inl ⟨by simp [mhas, hx] at h1 ⊢; exact h1, ?_, fun d => by simp [mget, hx, h3], fun y => by simp [mset, hx, h4]⟩
        simp only [Instr.findNow, hk, Instr.sameNow, if_true, hne]
        exact h2
      · refine .inr ⟨by simp [mhas, hx] at h1 ⊢; exact h1, i + 1, e', x', by simpa using a1, by simpa using a2, a3, a4, ?_, fun d => by simp [mget, hx, a6], fun y => by simp [mset, hx, a7]⟩
        simp only [Instr.findNow, hk, Instr.sameNow, if_true, hne]
        rw [a5]
        congr 3
        omega
theorem run_checkKey {b : Bool} {kt : TypeId} {k : IntKind} {m : Int} (h : P.underlying kt = some (.int k)) : (Instr.checkKey b 10000 kt (.int k m)).run P w = .ok () w := by
  show (Instr.checkKey b (9999 + 1) kt (.int k m)).run P w = _
  unfold Instr.checkKey
  simp [run_underlying h]
theorem run_findKey {kt : TypeId} {k : IntKind} {m : Int} (h : P.underlying kt = some (.int k)) {l : List MapEntry} {r : Option (Nat × Value)} (hf : Instr.findNow (.int k) (.int k m) l 0 = some r) : (Instr.findKey kt (.int k m) l).run P w = .ok r w := by
  simp [Instr.findKey, run_underlying h, hf]
theorem run_getObj {g n : Nat} {x : Array MapEntry} (h : w.heap[g]? = some (.map x n)) : (getObj g).run P w = .ok (.map x n) w := by
  simp [getObj, Sem.run, h]
/-- A map behind its value. -/
def MapAt (F : Nat → Prop) (w : World) (k : IntKind) (v : Ty) (u : Value) (xs : List (Unit × Int × v.den)) : Prop :=
  (u = .map none ∧ xs = []) ∨ ∃ g arr, u = .map (some g) ∧ w.heap[g]? = some (.map arr arr.size) ∧ MapR F w k v arr xs
theorem rep_map {k : IntKind} {v : Ty} {u : Value} {xs : List (Unit × Int × v.den)} (hr : RepC F w (.sl (.mpe k v)) xs [u]) : MapAt F w k v u xs := by
  obtain ⟨A, cap, h1, h2, h3⟩ := hr
  have hu : u = .map (A.map (·.block)) := by simpa [hdr, Ty.isMp] using h1
  rcases h3 with ⟨rfl, h4⟩ | ⟨g, o, cells, rfl, hF, hrow, hl⟩
  · have hA : A = none := h4 rfl
    subst hA hu
    exact .inl ⟨rfl, rfl⟩
  · obtain ⟨arr, ha, hm⟩ := lies_map hl hrow
    exact .inr ⟨g, arr, hu, ha, hm⟩
theorem own_map {k : IntKind} {v : Ty} {e : TypeId} {c : Nat} {u : Value} {xs : List (Unit × Int × v.den)} {cells : List Value} (ho : OwnsT (.mpe k v) w e u c cells) (hrow : RowC (RepC F w (.mpe k v)) (Ty.mpe k v).size xs cells) : ∃ g arr, u = .map (some g) ∧ w.heap[g]? = some (.map arr arr.size) ∧ MapR F w k v arr xs := by
  simp only [OwnsT, Ty.isMp] at ho
  obtain ⟨g, h1, h2⟩ := ho
  obtain ⟨arr, ha, hm⟩ := lies_map h2 hrow
  exact ⟨g, arr, h1, ha, hm⟩
/-- What a key has. -/
theorem run_lookup {t kt vt : TypeId} {k : IntKind} {v : Ty} {i : TypeInfo} {z : Value} {m : Int} {ok : Bool} (ht : P.underlying t = some (.map kt vt)) (mk : MOk P kt vt k v i z) {u : Value} {xs : List (Unit × Int × v.den)} (hr : MapAt F w k v u xs) :
    ∃ x, (Instr.lookup t u (.int k m) ok).run P w = .ok (if ok then .tuple #[x, .bool (mhas xs m)] else x) w ∧ ValR F w v x (mget v.dflt xs m) := by
  have hz : ValR F w v z v.dflt := by
    have := mk.form
    unfold ValR
    cases hv : v.isAgg with
    | true =>
      simp only [hv] at this ⊢
      obtain ⟨a, h1, h2⟩ := this
      exact ⟨a, h1, h2 F w⟩
    | false =>
      simp only [hv] at this ⊢
      exact this F w
  rcases hr with ⟨hu, rfl⟩ | ⟨g, arr, hu, ha, hm⟩
  · subst hu
    refine ⟨z, ?_, hz⟩
    simp [Instr.lookup, run_underlying ht, run_checkKey (m := m) mk.key, run_findKey (l := []) (r := none) (m := m) mk.key rfl, run_zero mk.info mk.zero, mhas]
    try (split <;> simp)
  · subst hu
    rcases find_ok (m := m) 0 hm.2 with ⟨e1, e2, e3, _⟩ | ⟨e1, j, e, x, a1, a2, a3, a4, a5, a6, _⟩
    · refine ⟨z, ?_, by rw [e3]; exact hz⟩
      simp [Instr.lookup, run_underlying ht, run_checkKey (m := m) mk.key, run_getObj ha, run_findKey (m := m) mk.key e2, run_zero mk.info mk.zero, e1]
      try (split <;> simp)
    · refine ⟨e.val, ?_, by rw [a6]; exact a3.2⟩
      simp [Instr.lookup, run_underlying ht, run_checkKey (m := m) mk.key, run_getObj ha, run_findKey (m := m) mk.key a5, e1]
      try (split <;> simp)
theorem val_av {v : Ty} {x : Value} {y : v.den} (h : ValR F w v x y) {q : AV} (hq : mkAV v.isAgg (flat v y) = some q) : RepA F w β G q x := by
  unfold ValR at h
  cases hv : v.isAgg with
  | true =>
    simp only [hv, mkAV, if_true, Option.some.injEq] at h hq
    obtain ⟨a, rfl, h⟩ := h
    subst hq
    exact ⟨a, rfl, rep_flat h⟩
  | false =>
    simp only [hv, mkAV] at h hq
    simp at hq
    split at hq
    · rename_i c hc
      injection hq with hq
      subst hq
      have := rep_flat (β := β) (H := G) h
      rw [hc] at this
      cases this with
      | cons r _ => exact r
    · simp at hq
theorem val_tup {v : Ty} {x : Value} {y : v.den} (h : ValR F w v x y) {b : Bool} : RepA F w β G (.tup [(v.isAgg, flat v y), (false, [.bool b])]) (.tuple #[x, .bool b]) := by
  refine ⟨_, rfl, .cons ?_ (.cons ⟨_, rfl, rfl⟩ .nil)⟩
  unfold ValR at h
  cases hv : v.isAgg with
  | true =>
    simp only [hv] at h ⊢
    obtain ⟨a, h1, h⟩ := h
    exact ⟨a, h1, rep_flat h⟩
  | false =>
    simp only [hv] at h ⊢
    have := rep_flat (β := β) (H := G) h
    cases hf : flat v y with
    | nil => rw [hf] at this; cases this
    | cons c r =>
      rw [hf] at this
      cases this with
      | cons r1 r2 =>
        cases r2
        exact ⟨c, rfl, r1⟩
theorem find_born {i : Nat} : ∀ {l : List MapEntry} {b : Nat}, (∀ (j : Nat) (e : MapEntry), l[j]? = some e → e.born = b + j) → b ≤ i → l.find? (fun e => e.born == i) = l[i - b]?
  | [], b, _, _ => by simp
  | e :: l, b, h, hi => by
    have h0 := h 0 e rfl
    by_cases hb : b = i
    · subst hb
      rw [List.find?_cons_of_pos (by simp; omega)]
      simp
    · rw [List.find?_cons_of_neg (by simp; omega), find_born (l := l) (b := b + 1) (fun j x hx => by have := h (j + 1) x (by simpa using hx); omega) (by omega), show i - b = (i - (b + 1)) + 1 by omega]
      simp
section ops
variable (p : Pre L w0 w F0 F β H G n sl) (hE : ∀ x ∈ o.op.operands, OpOk F w β G env a x) (cx : CtxOk P C)
include p hE cx
theorem row_map {c : CV} {u : Value} {k : IntKind} {v : Ty} {xs : List (Unit × Int × v.den)} (hr : RepV F w β G c u) (h : rowOf H c = some ⟨.mpe k v, xs⟩) : MapAt F w k v u xs := by
  unfold rowOf at h
  split at h
  · injection h with h
    injection h with h1 h2
    subst h1
    simp at h2
    subst h2
    exact rep_map hr
  · split at h
    · rename_i l e t xs' hs
      injection h with h
      injection h with h1 h2
      subst h1
      simp at h2
      subst h2
      have hG := p.slot hs (by simp)
      simp only [RepV, hG] at hr
      have ok := p.good.slot hr.1 hG
      cases l with
      | false => exact rep_map ok
      | true =>
        obtain ⟨⟨cells, ho, hrow⟩, _⟩ := ok
        obtain ⟨g, arr, h⟩ := own_map ho hrow
        exact .inr ⟨g, arr, h⟩
    · simp at h
  · split at h
    · rename_i l e t xs' hs
      injection h with h
      injection h with h1 h2
      subst h1
      have hG := p.slot hs (by simp)
      simp only [RepV, hG, Ty.isMp] at hr
      simp at hr
    · simp at h
  · simp at h
theorem q_lookup {t : TypeId} {x ix : Operand} {ok : Bool} {T : Ty} {c : CV} {k' : IntKind} {m : Int} {r : (t : Ty) × List t.den} (ho : o.op = .lookup t x ix ok) (hT : C.ty t = some T) (h1 : oprC env x = some c) (h2 : oprC env ix = some (.int k' m)) (h3 : rowOf H c = some r) (h4 : T = .sl r.1) (h5 : lookM ok k' m r.1 r.2 = some v) (hsl : sl = []) : QPost P (Bs L w0) F w β G n o a v sl := by
  subst hsl h4
  rcases r with ⟨t', xs⟩
  simp only at hT h3 h5
  obtain ⟨d, i, z, tk⟩ := cx.ty _ _ hT
  have r1 := (hE x (by rw [ho]; simp [Op.operands])).cell h1
  have e2 : a.eval ix = .int k' m := (hE ix (by rw [ho]; simp [Op.operands])).cell h2
  unfold lookM at h5
  split at h5
  case h_2 => simp at h5
  rename_i k v0
  split at h5
  case isFalse => simp at h5
  rename_i hk
  subst hk
  obtain ⟨kt, vt, i', z', hd, mk⟩ := tk.mp _ _ rfl
  have hm := row_map p hE cx r1 h3
  obtain ⟨x', hrun, hv⟩ := run_lookup (ok := ok) (m := m) (by rw [← hd]; exact tk.und) mk hm
  cases ok with
  | false =>
    exact QPost.pure (v' := x') (by simp [execOp, ho, e2]; rw [hrun]; rfl) (val_av hv h5) _
  | true =>
    simp at h5
    subst h5
    exact QPost.pure (v' := .tuple #[x', .bool (mhas _ m)]) (by simp [execOp, ho, e2]; rw [hrun]; rfl) (val_tup hv) _
theorem q_entry {x : Operand} {h : Nat} {k : IntKind} {v0 : Ty} {es : List (Unit × Int × v0.den)} {seen : List Nat} (ho : o.op = .entry x) (h1 : oprC env x = some (.ref h)) (hs : slotAt H h = .iter k v0 es seen) (hne : seen.isEmpty = false) (hv : v = .tup [(false, [.int k (cur v0.dflt es seen).2.1]), (v0.isAgg, flat v0 (cur v0.dflt es seen).2.2)]) (hsl : sl = []) : QPost P (Bs L w0) F w β G n o a v sl := by
  subst hsl hv
  have r1 := (hE x (by rw [ho]; simp [Op.operands])).cell h1
  have hG := p.slot hs (by simp)
  simp only [RepV, hG] at r1
  obtain ⟨gi, g, arr, a1, a2, a3, a4, a5, a6, ⟨a7, a7'⟩, a8⟩ := p.good.slot r1.1 hG
  have hnn : seen ≠ [] := by intro e; subst e; simp at hne
  have hlast : seen.getLast? = some (seen.getLast hnn) := List.getLast?_eq_some_getLast hnn
  have hi := a8 _ (List.getLast_mem hnn)
  have he : arr.toList[seen.getLast hnn]? = some arr[seen.getLast hnn] := by rw [Array.getElem?_toList]; simp [hi]
  obtain ⟨y, hy, hk, hval⟩ := a7'.get he
  have hcur : cur v0.dflt es seen = y := by
    unfold cur
    rw [List.getLastD_eq_getLast?, hlast]
    simp [List.getD_eq_getElem?_getD, hy]
  have hfind : arr.find? (fun e => e.born == seen.getLast hnn) = some arr[seen.getLast hnn] := by
    rw [← Array.find?_toList, find_born (b := 0) (fun j e h => by rw [Array.getElem?_toList] at h; have := a7 j e h; omega) (Nat.zero_le _), Nat.sub_zero, he]
  rw [hcur]
  refine QPost.pure (v' := .tuple #[arr[seen.getLast hnn].key, arr[seen.getLast hnn].val]) ?_ ?_ _
  · simp [execOp, ho, a1, Instr.entry, getObj, Sem.run, a4, a6, hlast, hfind]
  · rw [hk]
    refine ⟨_, rfl, .cons ⟨_, rfl, rfl⟩ (.cons ?_ .nil)⟩
    unfold ValR at hval
    cases hv : v0.isAgg with
    | true =>
      simp only [hv] at hval ⊢
      obtain ⟨b, e1, e2⟩ := hval
      exact ⟨b, e1, rep_flat e2⟩
    | false =>
      simp only [hv] at hval ⊢
      have := rep_flat (β := β) (H := G) hval
      cases hf : flat v0 y.2.2 with
      | nil => rw [hf] at this; cases this
      | cons c r =>
        rw [hf] at this
        cases this with
        | cons r1 r2 =>
          cases r2
          exact ⟨c, rfl, r1⟩
theorem q_makeMap {t : TypeId} {e : Ty} (ho : o.op = .makeMap t none) (hT : C.ty t = some (.sl e)) (hm : e.isMp = true) (hv : v = .one (.ref n)) (hsl : sl = [.row true (C.el e) e []]) : QPost P (Bs L w0) F w β G n o a v sl := by
  subst hv hsl
  have hrun : (execOp a.eval o).run P w = .ok (.value (.map (some w.heap.size))) (w.alloc (.map #[] 0)) := by
    simp [execOp, ho, Instr.makeMap, newObj, Sem.run]
  refine ⟨_, _, [.map (some w.heap.size)], hrun, rfl, ⟨below_alloc' _, fun h => by simp at h⟩, fun q u g hu hg => ?_, fun β' hb hβ => ?_⟩
  · cases q with
    | zero => simp at hu; subst hu; simp [blk] at hg; subst hg; exact ⟨rfl, Nat.le_refl _, by simp⟩
    | succ q => simp at hu
  · have hG := p.new 0 _ rfl
    have h0' := hβ 0 _ rfl
    rw [Nat.add_zero] at hG h0'
    refine ⟨fun q s u hs hu => ?_, ?_⟩
    · cases q with
      | zero =>
        simp at hs hu
        subst hs hu
        refine ⟨⟨[], ?_, by simp, fun i x h => by simp at h⟩, fun g hg => ?_⟩
        · simp only [OwnsT, hm]
          refine ⟨_, rfl, ?_⟩
          simp only [Lies, hm]
          exact ⟨#[], alloc_at _, fun i e h => by simp at h, by simp⟩
        · simp [blk] at hg
          subst hg
          exact ⟨.inl p.good.below.size, not_F p⟩
      | succ q => simp at hs
    · simp only [RepA, RepV, hG]
      exact ⟨h0', rfl⟩
end ops
end
end Go.Proofs.Ytanpdkllnmeenaa.Am
namespace Go.Proofs.Ytanpdkllnmeenaa.Am
open Go Go.RowKit
set_option linter.unusedVariables false
set_option linter.unusedSectionVars false
set_option linter.unusedSimpArgs false
section
variable {P : Program} {C : Ctx} {F : Nat → Prop} {w : World} {β β' : Bd} {H G : Heap}
variable {L : Nat → Prop} {w0 : World} {F0 : Nat → Prop} {n : Nat} {sl : List Slot} {env : List AV} {a : Act} {o : Oper} {v : AV}
theorem intOf_some {c : CV} {q : IntKind × Int} (h : intOf c = some q) : c = .int q.1 q.2 := by
  cases c <;> simp [intOf] at h
  subst h; rfl
theorem toNat_lt {i : Int} {k : Nat} (h0 : 0 ≤ i) (h1 : i < (k : Int)) : i.toNat < k := by omega
theorem bound_ok {x : Option Operand} {r : Option Int} (h : bndQ env x = some r) : BndIs env x r := by
  cases x with
  | none => simp [bndQ] at h; exact h.symm
  | some b =>
    simp only [bndQ, Option.map_eq_some_iff, Option.bind_eq_some_iff] at h
    obtain ⟨q, ⟨c, h1, h2⟩, h3⟩ := h
    exact ⟨q.1, q.2, by rw [h1, intOf_some h2], h3.symm⟩
theorem cutS_eq {α : Type} {lo hi : Option Int} {xs : List α} (h : chkS lo hi xs.length = true) : cutS lo hi xs = (xs.drop (lo.getD 0).toNat).take ((hi.getD xs.length).toNat - (lo.getD 0).toNat) := by
  cases lo with
  | none =>
    cases hi with
    | none => simp [cutS]
    | some h => simp [cutS]
  | some l =>
    cases hi with
    | none => simp [cutS]; rw [List.take_of_length_le (by simp)]
    | some h => simp [cutS, List.drop_take]
theorem chk_le {lo hi : Option Int} {m : Nat} (h : chkS lo hi m = true) : (lo.getD 0).toNat ≤ (hi.getD m).toNat ∧ (hi.getD m).toNat ≤ m := by
  cases lo <;> cases hi <;> simp [chkS] at h ⊢ <;> omega
/-- A part of a slice. -/
theorem part_ok {t : Ty} (hm : t.isMp = false) {xs : List t.den} {A : Option Addr} {k l h : Nat} (r : RepC F w (.sl t) xs [.slice A xs.length k]) (h1 : l ≤ h) (h2 : h ≤ xs.length) :
    RepC F w (.sl t) ((xs.drop l).take (h - l)) [.slice (if k = l then A else A.map (·.add (l * t.size))) (h - l) (k - l)] := by
  obtain ⟨A', cap, e, hl, hr⟩ := r
  rw [hdr_sl hm] at e
  simp at e
  obtain ⟨rfl, rfl⟩ := e
  have hlen : ((xs.drop l).take (h - l)).length = h - l := by rw [List.length_take, List.length_drop]; omega
  refine ⟨_, _, by rw [hlen, hdr_sl hm], by omega, ?_⟩
  by_cases hz : h - l = 0
  · exact .inl ⟨List.length_eq_zero_iff.1 (by omega), fun h => by simp [hm] at h⟩
  · rcases hr with ⟨hr, _⟩ | ⟨g, o, cells, hA, hF, hrow, hrange⟩
    · subst hr; simp at h2; omega
    · rw [lies_sl hm] at hrange
      refine .inr ⟨g, o + l * t.size, _, ?_, hF, hrow.sub l (h - l), (lies_sl hm).2 (range_cut hrange _ _)⟩
      rw [if_neg (by omega), hA]
      simp [Addr.add_mid]
theorem q_binT (p : Pre L w0 w F0 F β H G n sl) (hE : ∀ x ∈ o.op.operands, OpOk F w β G env a x) (cx : CtxOk P C) {op : BinOp} {t t2 : TypeId} {x y : Operand} {c d q : CV} (ho : o.op = .binOp op t x y t2) (h1 : oprC env x = some c) (h2 : oprC env y = some d) (h3 : binT (C.ty t) op c d = some q) (hv : v = .one q) (hsl : sl = []) : QPost P (Bs L w0) F w β G n o a v sl := by
  subst hsl hv
  have hx := (hE x (by rw [ho]; simp [Op.operands])).cell h1
  have hy := (hE y (by rw [ho]; simp [Op.operands])).cell h2
  unfold binT at h3
  split at h3
  case h_5 => simp at h3
  · rename_i b b' hT
    injection h3 with h3
    subst h3
    obtain ⟨d', i, z, tk⟩ := cx.ty _ _ hT
    have hd := tk.bool rfl
    subst hd
    have ex : a.eval x = .bool b := hx
    have ey : a.eval y = .bool b' := hy
    refine QPost.pure1 (v' := .bool (b == b')) ?_ (by simp only [RepV]) _
    simp [execOp, ho, ex, ey, eqGuard, run_eql_bool w t b b' tk.und]
  · rename_i b b' hT
    injection h3 with h3
    subst h3
    obtain ⟨d', i, z, tk⟩ := cx.ty _ _ hT
    have hd := tk.bool rfl
    subst hd
    have ex : a.eval x = .bool b := hx
    have ey : a.eval y = .bool b' := hy
    refine QPost.pure1 (v' := .bool (!(b == b'))) ?_ (by simp only [RepV]) _
    simp [execOp, ho, ex, ey, eqGuard, run_neq_bool w t b b' tk.und]
  · rename_i b b' hT
    injection h3 with h3
    subst h3
    have ex : a.eval x = .string b := hx
    have ey : a.eval y = .string b' := hy
    refine QPost.pure1 (v' := .bool (b.toList == b'.toList)) ?_ (by simp only [RepV]) _
    simp [execOp, ho, ex, ey, eqGuard, binOp, Op.stringOp]
  · rename_i b b' hT
    injection h3 with h3
    subst h3
    have ex : a.eval x = .string b := hx
    have ey : a.eval y = .string b' := hy
    refine QPost.pure1 (v' := .bool (!(b.toList == b'.toList))) ?_ (by simp only [RepV]) _
    simp [execOp, ho, ex, ey, eqGuard, binOp, Op.stringOp]
theorem q_index (p : Pre L w0 w F0 F β H G n sl) (hE : ∀ x ∈ o.op.operands, OpOk F w β G env a x) (cx : CtxOk P C) {t : TypeId} {x ix : Operand} {s : ByteArray} {k : IntKind} {i : Int} (ho : o.op = .index t x ix) (hT : C.ty t = some .str) (h1 : oprC env x = some (.str s)) (h2 : oprC env ix = some (.int k i)) (h0 : 0 ≤ i) (hm : i < (s.size : Int)) (hv : v = .one (.int .u8 (byteAt s i.toNat))) (hsl : sl = []) : QPost P (Bs L w0) F w β G n o a v sl := by
  subst hsl hv
  have ex : a.eval x = .string s := (hE x (by rw [ho]; simp [Op.operands])).cell h1
  have ei : a.eval ix = .int k i := (hE ix (by rw [ho]; simp [Op.operands])).cell h2
  obtain ⟨d', i', z, tk⟩ := cx.ty _ _ hT
  have hd := tk.str rfl
  subst hd
  have hlt : i.toNat < s.size := by omega
  have hs : s[i.toNat]? = some s[i.toNat] := by simp [hlt]
  refine QPost.pure1 (v' := .int .u8 (s[i.toNat].toNat : Int)) ?_ (by simp [RepV, byteAt, hs]) _
  simp [execOp, ho, ex, ei, Instr.index, asIntOf, run_underlying tk.und, h0, hs]
theorem run_part1 {e : TypeId} {d : TypeDesc} (he : P.underlying e = some d) (hr : d.isRow = false) {xs : Array Value} {off : Nat} {v : Value} (hx : xs[off]? = some v) : (part e xs off).run P w = .ok v w := by
  have : (isAgg e).run P w = .ok false w := by
    simp only [isAgg, Sem.run_bind, run_underlying he, Result.andThen_ok, Sem.run_pure]
    cases d <;> simp [TypeDesc.isRow] at hr <;> rfl
  simp [part, this, hx]
theorem eqFields_ok : ∀ {T : List Ty} {fs : List Field} {n : Nat} {cs ds : List CV} {xs ys : Array Value} {q : Bool}, EqFs P fs T n → All2 (RepV F w β G) cs (xs.toList.drop n) → All2 (RepV F w β G) ds (ys.toList.drop n) → eqCs T cs ds = some q → (Op.eqFields 9999 xs ys fs).run P w = .ok q w
  | [], [], n, cs, ds, xs, ys, q, _, r1, r2, h => by
    unfold eqCs at h
    split at h <;> simp at *
    subst h
    simp [Op.eqFields]
  | [], f :: fs, n, cs, ds, xs, ys, q, hf, r1, r2, h => by simp [EqFs] at hf
  | t :: T, [], n, cs, ds, xs, ys, q, hf, r1, r2, h => by simp [EqFs] at hf
  | t :: T, f :: fs, n, cs, ds, xs, ys, q, hf, r1, r2, h => by
    obtain ⟨h1, h2, h3, h4⟩ := hf
    cases cs with
    | nil => cases t <;> simp [eqCs] at h
    | cons c cs =>
    cases ds with
    | nil => cases t <;> cases c <;> simp [eqCs] at h
    | cons d ds =>
    have hx0 : ∀ {zs : Array Value} {c : CV} {cs : List CV}, All2 (RepV F w β G) (c :: cs) (zs.toList.drop n) → ∃ v, zs[n]? = some v ∧ RepV F w β G c v ∧ All2 (RepV F w β G) cs (zs.toList.drop (n + 1)) := fun {zs c cs} r => by
      generalize hz : zs.toList.drop n = l at r
      cases r with
      | @cons _ v _ m r1 r2 =>
        have e0 : zs.toList[n]? = some v := by rw [← List.head?_drop, hz]; rfl
        refine ⟨v, by rwa [Array.getElem?_toList] at e0, r1, ?_⟩
        rw [← List.drop_drop, hz]
        exact r2
    obtain ⟨a, ha, ra, rr1⟩ := hx0 r1
    obtain ⟨b, hb, rb, rr2⟩ := hx0 r2
    subst h2
    have step : ∀ {e qq : Bool} {dd : TypeDesc}, P.underlying f.type = some dd → dd.isRow = false → (Op.equalIn 9999 f.type a b).run P w = .ok e w → eqCs T cs ds = some qq → (Op.eqFields 9999 xs ys (f :: fs)).run P w = .ok (e && qq) w := fun {e qq dd} hu hr he hq => by
      have ih := eqFields_ok h4 rr1 rr2 hq
      simp only [Op.eqFields, if_pos h1, Sem.run_bind, run_part1 (w := w) hu hr ha, run_part1 (w := w) hu hr hb, he, Result.andThen_ok, Sem.run_ite]
      cases e with
      | true => simp [ih]
      | false => simp
    cases t with
    | int k0 =>
      obtain ⟨k, hu⟩ := h3
      cases c <;> cases d <;> simp only [eqCs, reduceCtorEq] at h
      split at h
      case isFalse => simp at h
      rename_i hk
      subst hk
      simp only [Option.map_eq_some_iff] at h
      obtain ⟨qq, hq, rfl⟩ := h
      have ea : a = .int _ _ := ra
      have eb : b = .int _ _ := rb
      subst ea eb
      exact step hu rfl (run_equalIn_int w 9998 _ _ k _ _ hu) hq
    | bool =>
      cases c <;> cases d <;> simp only [eqCs, reduceCtorEq, Option.map_eq_some_iff] at h
      obtain ⟨qq, hq, rfl⟩ := h
      have ea : a = .bool _ := ra
      have eb : b = .bool _ := rb
      subst ea eb
      exact step h3 rfl (run_equalIn_bool' w 9998 _ _ _ h3) hq
    | str =>
      cases c <;> cases d <;> simp only [eqCs, reduceCtorEq, Option.map_eq_some_iff] at h
      obtain ⟨qq, hq, rfl⟩ := h
      have ea : a = .string _ := ra
      have eb : b = .string _ := rb
      subst ea eb
      exact step h3 rfl (run_equalIn_string w 9998 _ _ _ h3) hq
    | _ => exact h3.elim
theorem q_eqS (p : Pre L w0 w F0 F β H G n sl) (hE : ∀ x ∈ o.op.operands, OpOk F w β G env a x) (cx : CtxOk P C) {op : BinOp} {t t2 : TypeId} {x y : Operand} {u1 u2 : AV} {T : List Ty} {q : CV} (ho : o.op = .binOp op t x y t2) (hT : C.eqs t = some T) (h1 : opr env x = some u1) (h2 : opr env y = some u2) (h3 : eqS T op u1 u2 = some q) (hv : v = .one q) (hsl : sl = []) : QPost P (Bs L w0) F w β G n o a v sl := by
  subst hsl hv
  have hx := hE x (by rw [ho]; simp [Op.operands]) _ h1
  have hy := hE y (by rw [ho]; simp [Op.operands]) _ h2
  have ek := cx.eqs _ _ hT
  unfold eqS at h3
  split at h3
  case h_2 => simp at h3
  rename_i cs ds
  obtain ⟨xs, ex, rx⟩ := hx
  obtain ⟨ys, ey, ry⟩ := hy
  have key : ∀ {b : Bool}, eqCs T cs ds = some b → (Op.equalIn 10000 t (.agg xs) (.agg ys)).run P w = .ok b w := fun {b} hb => by
    rw [show (10000 : Nat) = 9999 + 1 from rfl, run_equalIn_agg w 9999 t xs ys ek.und ek.held]
    exact eqFields_ok ek.fields (by simpa using rx) (by simpa using ry) hb
  split at h3
  · simp only [Option.map_eq_some_iff] at h3
    obtain ⟨b, hb, rfl⟩ := h3
    refine QPost.pure1 (v' := .bool b) ?_ (by simp only [RepV]) _
    simp [execOp, ho, ex, ey, run_eqGuard_agg w _ _ _ _ _ _ ek.guard, run_eql_struct, key hb]
  · simp only [Option.map_eq_some_iff] at h3
    obtain ⟨b, hb, rfl⟩ := h3
    refine QPost.pure1 (v' := .bool (!b)) ?_ (by simp only [RepV]) _
    simp [execOp, ho, ex, ey, run_eqGuard_agg w _ _ _ _ _ _ ek.guard, run_neq_struct, key hb]
  · simp at h3
theorem slotAt_row {h : Nat} {s : Slot} (e : slotAt H h = s) (hs : s ≠ .dead) : H[h]? = some s := by
  unfold slotAt at e
  rw [List.getD_eq_getElem?_getD] at e
  cases hh : H[h]? with
  | none => rw [hh] at e; exact absurd e.symm hs
  | some s' => rw [hh] at e; simp at e; subst e; rfl
theorem opQ_ok (p : Pre L w0 w F0 F β H G n sl) (hE : ∀ x ∈ o.op.operands, OpOk F w β G env a x) (cx : CtxOk P C) (h : opQ C env H n o = some (true, v, sl)) : QPost P (Bs L w0) F w β G n o a v sl := by
  unfold opQ at h
  split at h
  · -- move
    rename_i x ho
    simp only [Option.map_eq_some_iff] at h
    obtain ⟨q, h1, h2⟩ := h
    simp at h2
    obtain ⟨rfl, rfl⟩ := h2
    exact q_move p hE cx (.inl ho) h1
  · rename_i x ho
    simp only [Option.map_eq_some_iff] at h
    obtain ⟨q, h1, h2⟩ := h
    simp at h2
    obtain ⟨rfl, rfl⟩ := h2
    exact q_move p hE cx (.inr ho) h1
  · -- alloc
    rename_i e ho
    split at h
    · rename_i q hq
      simp at h
      exact q_allocArr p hE cx ho hq h.1.symm h.2.symm
    simp only [Option.bind_eq_some_iff] at h
    obtain ⟨T, h1, h2⟩ := h
    have hv : v = .one (.ptr n 0 0) := by
      split at h2
      · simp at h2; exact h2.1.symm
      · simp at h2
    subst hv
    exact q_alloc p hE cx ho h1 h2
  · -- box
    rename_i e x ho
    simp only [Option.bind_eq_some_iff] at h
    obtain ⟨T, h1, q, h2, cs, h3, h4⟩ := h
    simp at h4
    obtain ⟨rfl, rfl⟩ := h4
    exact q_box p hE cx ho h2 h3 rfl
  · -- build
    rename_i t parts ho
    simp only [Option.bind_eq_some_iff] at h
    obtain ⟨fl, h0, T, h1, cs, h2, h3⟩ := h
    split at h3
    · rename_i cs' sl' he
      simp at h3
      obtain ⟨rfl, rfl⟩ := h3
      exact q_build p hE cx ho h0 h1 h2 he rfl
    · simp at h3
  · -- buildSlice
    rename_i t len parts ho
    split at h
    · rename_i e hT
      simp only [Option.bind_eq_some_iff] at h
      obtain ⟨xs, h1, h2⟩ := h
      split at h2
      · rename_i hl
        simp at h2
        exact q_buildSlice p hE cx ho hT hl.2 h1 hl.1 h2.1.symm h2.2.symm
      · simp at h2
    · simp at h
  · -- load
    rename_i t x ho
    simp only [Option.bind_eq_some_iff, Option.map_eq_some_iff] at h
    obtain ⟨T, h1, c, h2, cs, h3, v', h4, h5⟩ := h
    simp at h5
    obtain ⟨rfl, rfl⟩ := h5
    exact q_load p hE cx ho h1 h2 h3 h4 rfl
  · -- nilCheck
    rename_i x ho
    simp only [Option.bind_eq_some_iff, Option.map_eq_some_iff] at h
    obtain ⟨c, h1, q, h2, h3⟩ := h
    simp at h3
    exact q_nilCheck p hE cx ho h1 h2 h3.1.symm h3.2
  · -- binOp
    rename_i op t x y t2 ho
    split at h
    · rename_i T hT
      simp only [Option.bind_eq_some_iff, Option.map_eq_some_iff] at h
      obtain ⟨u1, h1, u2, h2, q, h3, h4⟩ := h
      simp at h4
      exact q_eqS p hE cx ho hT h1 h2 h3 h4.1.symm h4.2
    simp only [Option.bind_eq_some_iff] at h
    obtain ⟨c, h1, d, h2, h3⟩ := h
    split at h3
    · rename_i q hq
      simp at h3
      obtain ⟨e1, e2, e3⟩ := h3
      exact q_bin p hE cx ho h1 h2 (q := q.2) (by rw [hq]; rw [← e1]) e2.symm e3
    · simp only [Option.map_eq_some_iff] at h3
      obtain ⟨q, h4, h5⟩ := h3
      simp at h5
      exact q_binT p hE cx ho h1 h2 h4 h5.1.symm h5.2
  · -- unOp
    rename_i op t x ho
    simp only [Option.bind_eq_some_iff, Option.map_eq_some_iff] at h
    obtain ⟨c, h1, q, h2, h3⟩ := h
    simp at h3
    exact q_un p hE cx ho h1 h2 h3.1.symm h3.2
  · -- convert
    rename_i s d x ho
    simp only [Option.bind_eq_some_iff] at h
    obtain ⟨c, h1, h2⟩ := h
    split at h2
    · rename_i k2 k k3 m hs hd
      simp at h2
      exact q_conv p hE cx ho h1 hs hd h2.1.symm h2.2
    · simp at h2
  · -- makeFunc
    rename_i f l m ho
    simp only [Option.bind_eq_some_iff, Option.map_eq_some_iff] at h
    obtain ⟨l', h1, m', h2, h3⟩ := h
    simp at h3
    exact q_makeFunc p hE cx ho h1 h2 h3.1.symm h3.2
  · -- makeSlice
    rename_i t l c ho
    split at h
    · rename_i e hT
      split at h
      · simp at h
      rename_i hmp
      simp only [Option.bind_eq_some_iff, Option.map_eq_some_iff] at h
      obtain ⟨c1, h1, q1, h2, c2, h3, q2, h4, h5⟩ := h
      simp at h5
      obtain ⟨⟨b1, b2, b3⟩, e2, e3⟩ := h5
      exact q_makeSlice p hE cx ho hT hmp (by rw [h1, intOf_some h2]) (by rw [h3, intOf_some h4]) b1 b2 b3 e2.symm e3.symm
    · simp at h
  · -- slice
    rename_i ty x lo hi ho
    simp only [Option.bind_eq_some_iff, Option.map_eq_some_iff] at h
    obtain ⟨T, hT, c, h1, lo', h2, hi', h3, q, h4, h5⟩ := h
    have h2' := bound_ok (env := env) (x := lo) (r := lo') h2
    have h3' := bound_ok (env := env) (x := hi) (r := hi') h3
    simp at h5
    obtain ⟨e1, e2, e3⟩ := h5
    unfold sliceQ at h4
    split at h4
    · rename_i t xs
      split at h4
      case isFalse => simp at h4
      rename_i hTt
      obtain ⟨hTt, hmp⟩ := hTt
      subst hTt
      injection h4 with h4
      subst h4
      simp only [] at e1
      refine q_slice p hE cx (t := t) ho hT hmp h1 h2' h3' (m := xs.length) ⟨rfl, rfl⟩ e1 (fun u r A k hu hk => ?_) e2.symm e3
      subst hu
      have hle := chk_le e1
      rw [cutS_eq e1]
      exact part_ok hmp r hle.1 hle.2
    · rename_i hh
      split at h4
      case h_2 => simp at h4
      rename_i l e t xs hs
      split at h4
      case isFalse => simp at h4
      rename_i hTt
      obtain ⟨hTt, hmp⟩ := hTt
      subst hTt
      injection h4 with h4
      subst h4
      simp only [] at e1
      refine q_slice p hE cx (t := t) ho hT hmp h1 h2' h3' (m := xs.length) (by simp [sliceIs, hs]) e1 (fun u r A k hu hk => ?_) e2.symm e3
      have hG := p.slot hs (by simp)
      simp only [RepV, hG] at r
      simp only [RepV, hG]
      have hle := chk_le e1
      refine ⟨⟨hmp, by omega⟩, _, _, rfl, by omega, ?_, fun hlv => ?_⟩
      rotate_left
      · subst hlv
        obtain ⟨⟨cells, ho', _⟩, _⟩ := p.good.slot r.1 hG
        rw [owns_sl hmp] at ho'
        obtain ⟨_, ⟨e0, en⟩ | ⟨g, q', cap, cur, e0, _, hnc, _⟩⟩ := ho'
        · rw [hu] at e0
          simp at e0
          obtain ⟨rfl, _, rfl⟩ := e0
          refine .inl ⟨by omega, ?_, by omega⟩
          rw [if_pos (by omega)]
        · rw [hu] at e0
          simp at e0
          obtain ⟨rfl, rfl⟩ := e0
          by_cases hk' : k = (lo'.getD 0).toNat
          · exact .inr ⟨g, q', q', _, _, by rw [r.1, hu], by rw [if_pos hk'], by rw [hk', Nat.sub_self]; omega, by omega⟩
          · refine .inr ⟨g, q', q' + (lo'.getD 0).toNat * t.size, _, _, by rw [r.1, hu], by rw [if_neg hk']; simp [Addr.add_mid], ?_, by omega⟩
            have : (lo'.getD 0).toNat * t.size + (k - (lo'.getD 0).toNat) * t.size = k * t.size := by rw [← Nat.add_mul]; congr 1; omega
            omega
      by_cases hz : (hi'.getD xs.length).toNat - (lo'.getD 0).toNat = 0
      · exact .inl hz
      · obtain ⟨A', c', hu', _, hA⟩ := row_val hmp (p.good.slot r.1 hG)
        rw [hu] at hu'
        simp at hu'
        obtain ⟨rfl, rfl⟩ := hu'
        rcases hA with hA | ⟨g, q', hA⟩
        · subst hA; simp at hle hz; omega
        · refine .inr ⟨g, q', _, _, by rw [r.1, hu, hA], ?_⟩
          rw [if_neg (by omega), hA]
          simp [Addr.add_mid]
    · rename_i hh o' l
      split at h4
      case h_2 => simp at h4
      rename_i lv e t xs hs
      split at h4
      case isFalse => simp at h4
      rename_i hTt
      obtain ⟨hTt, hmp⟩ := hTt
      subst hTt
      injection h4 with h4
      subst h4
      simp only [] at e1
      refine q_slice p hE cx (t := t) ho hT hmp h1 h2' h3' (m := l) (by simp [sliceIs, hs]) e1 (fun u r A k hu hk => ?_) e2.symm e3
      have hG := p.slot hs (by simp)
      simp only [RepV, hG] at r
      simp only [RepV, hG]
      have hle := chk_le e1
      obtain ⟨⟨_, r1⟩, A', c', r2, r3, r4, rcap⟩ := r
      rw [hu] at r2
      simp at r2
      obtain ⟨rfl, rfl⟩ := r2
      refine ⟨⟨hmp, by omega⟩, _, _, rfl, by omega, ?_, fun hlv => ?_⟩
      rotate_left
      · rcases rcap hlv with ⟨b1, b2, b3⟩ | ⟨g, p', q', n', k', b1, b2, b3, b4⟩
        · refine .inl ⟨by omega, ?_, by omega⟩
          rw [if_pos (by omega)]
          exact b2
        · by_cases hk' : k = (lo'.getD 0).toNat
          · exact .inr ⟨g, p', q', n', k', b1, by rw [if_pos hk']; exact b2, by rw [hk', Nat.sub_self]; omega, by omega⟩
          · refine .inr ⟨g, p', q' + (lo'.getD 0).toNat * t.size, n', k', b1, by rw [if_neg hk', b2]; simp [Addr.add_mid], ?_⟩
            have : (lo'.getD 0).toNat * t.size + (k - (lo'.getD 0).toNat) * t.size = k * t.size := by rw [← Nat.add_mul]; congr 1; omega
            omega
      by_cases hz : (hi'.getD l).toNat - (lo'.getD 0).toNat = 0
      · exact .inl hz
      · rcases r4 with r4 | ⟨g, p', n', k', r4, r5⟩
        · subst r4; simp at hle hz; omega
        · refine .inr ⟨g, p', _, _, r4, ?_⟩
          rw [if_neg (by omega), r5]
          simp [Addr.add_mid, Nat.add_mul, Nat.add_assoc]
    · simp at h4
  · -- fieldAddr
    rename_i s x f ho
    simp only [Option.bind_eq_some_iff, Option.map_eq_some_iff] at h
    obtain ⟨c, h1, fl, h2, q, h3, h4⟩ := h
    simp at h4
    exact q_fieldAddr p hE cx ho h1 h2 h3 h4.1.symm h4.2
  · -- field
    rename_i s x f ho
    simp only [Option.bind_eq_some_iff] at h
    obtain ⟨u, h1, fl, h2, h3⟩ := h
    split at h3
    · simp only [Option.bind_eq_some_iff, Option.map_eq_some_iff] at h3
      obtain ⟨us, h4, v', h5, h6⟩ := h3
      simp at h6
      obtain ⟨rfl, rfl⟩ := h6
      exact q_field p hE cx ho h1 h2 h4 h5 rfl
    · simp at h3
  · -- indexAddr
    rename_i ty x ix ho
    split at h
    · rename_i aq haq
      simp only [Option.bind_eq_some_iff] at h
      obtain ⟨c, h1, ci, h2, q, h3, h4⟩ := h
      have h2' : oprC env ix = some (.int q.1 q.2) := by rw [h2, intOf_some h3]
      split at h4
      case h_2 => simp at h4
      rename_i hh
      split at h4
      case h_2 => simp at h4
      rename_i lv e t xs hs
      split at h4
      case isFalse => simp at h4
      rename_i ht
      simp at h4
      obtain ⟨⟨b1, b2, b3⟩, e2, e3⟩ := h4
      exact q_indexArr p hE cx (m := aq.1) ho (by rw [haq, ht]) h1 h2' hs b1 b2 b3 e2.symm e3
    simp only [Option.bind_eq_some_iff] at h
    obtain ⟨T, hT, c, h1, ci, h2, q, h3, h4⟩ := h
    have h2' : oprC env ix = some (.int q.1 q.2) := by rw [h2, intOf_some h3]
    split at h4
    · rename_i t xs
      split at h4
      case isFalse => simp at h4
      rename_i hTt
      obtain ⟨hTt, hmp⟩ := hTt
      subst hTt
      simp at h4
      obtain ⟨⟨b1, b2⟩, e2, e3⟩ := h4
      refine q_indexAddr p hE cx (t := t) ho hT hmp h1 h2' (m := xs.length) ⟨rfl, rfl⟩ b1 b2 (fun u r k g o hu => ?_) e2.symm e3
      subst hu
      have hx : xs[q.2.toNat]? = some (xs.getD q.2.toNat t.dflt) := by rw [List.getD_eq_getElem?_getD, List.getElem?_eq_getElem (toNat_lt b1 b2)]; simp
      have hF : F g := by
        obtain ⟨A, cap, e, hl, h | ⟨g', o', cells, hA, hF, _⟩⟩ := r
        · rw [h.1] at hx; simp at hx
        · rw [hdr_sl hmp] at e; simp at e; rw [hA] at e; simp at e; rw [e.1.1]; exact hF
      obtain ⟨cells, hr, hrange⟩ := row_elem (base := fun _ => True) (live := false) (e := 0) (t := t) (xs := xs) (β := β) (G := G) r rfl hx
      have hx' : xs.getD q.2.toNat t.dflt = xs[q.2.toNat]?.getD t.dflt := List.getD_eq_getElem?_getD
      refine ⟨g, o + q.2.toNat * t.size, cells, by rw [Nat.add_zero], hF, ?_, hrange⟩
      exact hr
    · rename_i hh
      split at h4
      case h_2 => simp at h4
      rename_i l e t xs hs
      split at h4
      case isFalse => simp at h4
      rename_i hTt
      obtain ⟨hTt, hmp⟩ := hTt
      subst hTt
      simp at h4
      obtain ⟨⟨b1, b2⟩, e2, e3⟩ := h4
      refine q_indexAddr p hE cx (t := t) ho hT hmp h1 h2' (m := xs.length) (by simp [sliceIs, hs]) b1 b2 (fun u r k g o hu => ?_) e2.symm e3
      have hG := p.slot hs (by simp)
      simp only [RepV, hG] at r
      simp only [RepV, RepPtr, hG]
      exact ⟨⟨hmp, toNat_lt b1 b2⟩, g, o, _, k, by rw [r.1, hu], by rw [Nat.add_zero]⟩
    · rename_i hh o' l
      split at h4
      case h_2 => simp at h4
      rename_i lv e t xs hs
      split at h4
      case isFalse => simp at h4
      rename_i hTt
      obtain ⟨hTt, hmp⟩ := hTt
      subst hTt
      simp at h4
      obtain ⟨⟨b1, b2⟩, e2, e3⟩ := h4
      refine q_indexAddr p hE cx (t := t) ho hT hmp h1 h2' (m := l) (by simp [sliceIs, hs]) b1 b2 (fun u r k g o hu => ?_) e2.symm e3
      have hG := p.slot hs (by simp)
      simp only [RepV, hG] at r
      simp only [RepV, RepPtr, hG]
      obtain ⟨⟨_, r1⟩, A, c, r2, r3, r4, _⟩ := r
      rcases r4 with r4 | ⟨g', p', n', k', r4, r5⟩
      · omega
      · rw [hu] at r2
        simp at r2
        obtain ⟨r2, _⟩ := r2
        rw [r5] at r2
        simp at r2
        obtain ⟨rfl, rfl⟩ := r2
        exact ⟨⟨hmp, by omega⟩, g, p', n', k', r4, by rw [Nat.add_zero, Nat.add_mul]; simp [Nat.add_assoc]⟩
    · simp at h4
  · -- extract
    rename_i x i ho
    simp only [Option.bind_eq_some_iff] at h
    obtain ⟨u, h1, h2⟩ := h
    split at h2
    · simp only [Option.bind_eq_some_iff, Option.map_eq_some_iff] at h2
      obtain ⟨q, h3, v', h4, h5⟩ := h2
      simp at h5
      obtain ⟨rfl, rfl⟩ := h5
      exact q_extract p hE cx ho h1 h3 h4 rfl
    · simp at h2
  · -- index
    rename_i t x ix ho
    split at h
    · rename_i hT
      simp only [Option.bind_eq_some_iff] at h
      obtain ⟨c, h1, j, h2, q, h3, h4⟩ := h
      split at h4
      · simp at h4
        obtain ⟨⟨b1, b2⟩, e1, e2⟩ := h4
        exact q_index p hE cx ho hT h1 (by rw [h2, intOf_some h3]) b1 b2 e1.symm e2
      · simp at h4
    · simp at h
  · -- entry
    rename_i x ho
    simp only [Option.bind_eq_some_iff] at h
    obtain ⟨c, h1, hh, hc, h2⟩ := h
    have hc := asRef_ok hc
    subst hc
    split at h2
    case h_2 => simp at h2
    rename_i k v0 es seen hs
    simp only [Option.some.injEq, Prod.mk.injEq, Bool.not_eq_true'] at h2
    exact q_entry p hE cx ho h1 hs h2.1 h2.2.1.symm h2.2.2.symm
  · -- makeMap
    rename_i t ho
    split at h
    · rename_i e hT
      split at h
      · rename_i hm
        simp at h
        exact q_makeMap p hE cx ho hT hm h.1.symm h.2.symm
      · simp at h
    · simp at h
  · -- lookup
    rename_i t x ix ok ho
    simp only [Option.bind_eq_some_iff] at h
    obtain ⟨T, hT, c, h1, ci, h2, q, h3, r, h4, h5⟩ := h
    split at h5
    case isFalse => simp at h5
    rename_i hTr
    simp only [Option.map_eq_some_iff] at h5
    obtain ⟨v', h6, h7⟩ := h5
    simp at h7
    obtain ⟨rfl, rfl⟩ := h7
    exact q_lookup p hE cx ho hT h1 (by rw [h2, intOf_some h3]) h4 hTr h6 rfl
  · -- len
    rename_i args ats ho
    simp only [Option.bind_eq_some_iff, Option.map_eq_some_iff] at h
    obtain ⟨x, h1, ty, h2, T, h3, c, h4, m, h5, h6⟩ := h
    simp at h6
    exact q_len p hE cx ho h1 h2 h3 h4 h5 h6.1.symm h6.2
  · rename_i args ats ho
    split at h
    · rename_i x y ha
      simp only [Option.bind_eq_some_iff, Option.map_eq_some_iff] at h
      obtain ⟨c, h1, d, h2, q, h3, h6⟩ := h
      simp at h6
      exact q_mm p hE cx (g := true) ho ha h1 h2 h3 h6.1.symm h6.2
    · simp at h
  · rename_i args ats ho
    split at h
    · rename_i x y ha
      simp only [Option.bind_eq_some_iff, Option.map_eq_some_iff] at h
      obtain ⟨c, h1, d, h2, q, h3, h6⟩ := h
      simp at h6
      exact q_mm p hE cx (g := false) ho ha h1 h2 h3 h6.1.symm h6.2
    · simp at h
  · simp at h
end
end Go.Proofs.Ytanpdkllnmeenaa.Am
namespace Go.Proofs.Ytanpdkllnmeenaa.Am
open Go Go.RowKit
set_option linter.unusedVariables false
set_option linter.unusedSectionVars false
set_option linter.unusedSimpArgs false
section
variable {P : Program} {C : Ctx} {F F' : Nat → Prop} {w w' : World} {β β' : Bd} {H H' G : Heap}
variable {L : Nat → Prop} {w0 : World} {F0 : Nat → Prop} {n : Nat} {sl : List Slot} {env : List AV} {a : Act} {o : Oper} {v : AV} {base : Nat → Prop}
theorem owns_keep {e : TypeId} {size k : Nat} {u : Value} {xs : List Value} (h : ownsAt w e size u k xs) (hb : ∀ g, blk u = some g → w'.heap[g]? = w.heap[g]?) : ownsAt w' e size u k xs := by
  refine ⟨h.1, h.2.imp id fun ⟨g, o, cap, cur, h1, h3, r⟩ => ⟨g, o, cap, cur, h1, ?_, r⟩⟩
  rw [hb g (by rw [h1]; rfl)]
  exact h3
theorem ownsT_keep {t : Ty} {e : TypeId} {k : Nat} {u : Value} {xs : List Value} (h : OwnsT t w e u k xs) (hb : ∀ g, blk u = some g → w'.heap[g]? = w.heap[g]?) : OwnsT t w' e u k xs := by
  unfold OwnsT at h ⊢
  cases hm : t.isMp with
  | true =>
    simp only [hm] at h ⊢
    obtain ⟨g, h1, h2⟩ := h
    exact ⟨g, h1, lies_of_block (hb g (by rw [h1]; rfl)) h2⟩
  | false =>
    simp only [hm] at h ⊢
    exact owns_keep h hb
theorem ownsT_lt {t : Ty} {e : TypeId} {k g : Nat} {u : Value} {xs : List Value} (h : OwnsT t w e u k xs) (hg : blk u = some g) : g < w.heap.size := by
  unfold OwnsT at h
  cases hm : t.isMp with
  | true =>
    simp only [hm] at h
    obtain ⟨g', h1, h2⟩ := h
    rw [h1] at hg
    simp [blk] at hg
    subst hg
    simp only [Lies, hm] at h2
    obtain ⟨arr, h3, _⟩ := h2
    exact (Array.getElem?_eq_some_iff.1 h3).1
  | false =>
    simp only [hm] at h
    obtain ⟨_, h1 | ⟨g', o, cap, cur, h1, h3, _⟩⟩ := h
    · rw [h1.1] at hg; simp [blk] at hg
    · rw [h1] at hg
      simp [blk] at hg
      subst hg
      exact (Array.getElem?_eq_some_iff.1 h3).1
theorem owns_rep {t : Ty} {e : TypeId} {u : Value} {xs : List t.den} {cells : List Value} (h : OwnsT t w e u xs.length cells) (hr : RowC (RepC F w t) t.size xs cells) (hF : ∀ g, blk u = some g → F g) : RepC F w (.sl t) xs [u] := by
  unfold OwnsT at h
  cases hm : t.isMp with
  | true =>
    simp only [hm] at h
    obtain ⟨g, h1, h2⟩ := h
    exact ⟨some ⟨g, 0, none⟩, xs.length, by rw [h1]; simp [hdr, hm], Nat.le_refl _, .inr ⟨g, 0, cells, rfl, hF g (by rw [h1]; rfl), hr, h2⟩⟩
  | false =>
    simp only [hm] at h
    obtain ⟨hl, h1 | ⟨g, o, cap, cur, h1, h3, h4, h5, h6, h7⟩⟩ := h
    · refine ⟨none, 0, by rw [h1.1, h1.2, hdr_sl hm], by omega, .inl ⟨List.length_eq_zero_iff.1 h1.2, fun _ => rfl⟩⟩
    · refine ⟨_, cap, by rw [h1, hdr_sl hm], h4, .inr ⟨g, o, cells, rfl, hF g (by rw [h1]; rfl), hr, (lies_sl hm).2 ?_⟩⟩
      rw [← h7]
      intro j x hx
      rw [List.getElem?_take] at hx
      split at hx
      · simp only [World.cell?, h3]
        rw [List.getElem?_drop, Array.getElem?_toList] at hx
        simpa using hx
      · simp at hx
theorem ownsT_kind {t : Ty} {e : TypeId} {k : Nat} {u : Value} {xs : List Value} (h : OwnsT t w e u k xs) : (t.isMp = false ∧ ∃ A c, u = .slice A k c) ∨ ∃ g, t.isMp = true ∧ u = .map (some g) := by
  unfold OwnsT at h
  cases hm : t.isMp with
  | true =>
    simp only [hm] at h
    obtain ⟨g, h1, _⟩ := h
    exact .inr ⟨g, rfl, h1⟩
  | false =>
    simp only [hm] at h
    obtain ⟨hl, h1 | ⟨g, o, cap, cur, h1, _⟩⟩ := h
    · exact .inl ⟨rfl, none, 0, by rw [h1.1, h1.2]⟩
    · exact .inl ⟨rfl, _, _, h1⟩
theorem ownsT_one {t : Ty} {e : TypeId} {k : Nat} {u : Value} {xs : List Value} (h : OwnsT t w e u k xs) : u.oneCell' = true := by
  rcases ownsT_kind h with ⟨_, A, c, h⟩ | ⟨g, _, h⟩ <;> rw [h] <;> rfl
theorem SlotOk.keep {s : Slot} {u : Value} (k : Keeps F F' w w' β β' H H') (hb : s.isLive = true → ∀ g, blk u = some g → w'.heap[g]? = w.heap[g]? ∧ (¬ F g → ¬ F' g)) (h : SlotOk base F w β H s u) : SlotOk base F' w' β' H' s u := by
  cases s with
  | dead => trivial
  | row l e t xs =>
    cases l with
    | true =>
      obtain ⟨⟨cells, h1, h2⟩, h3⟩ := h
      exact ⟨⟨cells, ownsT_keep h1 fun g hg => (hb rfl g hg).1, h2.mono fun _ _ => RepC.mono k.f k.w⟩, fun g hg => ⟨(h3 g hg).1, (hb rfl g hg).2 (h3 g hg).2⟩⟩
    | false => exact RepC.mono (t := .sl t) k.f k.w h
  | box t cs =>
    obtain ⟨g, arr, e, h1, h2, h3, h4, h5⟩ := h
    have := hb rfl g (by rw [h1]; rfl)
    exact ⟨g, arr, e, h1, h2, this.1.trans h3, h4.mono fun _ _ => RepV.mono k, this.2 h5⟩
  | iter => exact IterR.mono k.f k.w h (hb rfl)
theorem SlotOk.lt {s : Slot} {u : Value} (h : SlotOk base F w β H s u) (hl : s.isLive = true) {g : Nat} (hg : blk u = some g) : base g ∧ g < w.heap.size ∧ ¬ F g := by
  cases s with
  | dead => simp [Slot.isLive] at hl
  | row l e t xs =>
    simp [Slot.isLive] at hl
    subst hl
    obtain ⟨⟨cells, ho, _⟩, h4⟩ := h
    exact ⟨(h4 _ hg).1, ownsT_lt ho hg, (h4 _ hg).2⟩
  | box t cs =>
    obtain ⟨g', arr, e, h1, h2, h3, h4, h5⟩ := h
    rw [h1] at hg
    simp [blk] at hg
    subst hg
    exact ⟨h2, (Array.getElem?_eq_some_iff.1 h3).1, h5⟩
  | iter k v es seen =>
    obtain ⟨gi, g', arr, h1, h2, h3, h4, _⟩ := h
    rw [h1] at hg
    simp [blk] at hg
    subst hg
    exact ⟨h2, (Array.getElem?_eq_some_iff.1 h4).1, h3⟩
def ext (β : Bd) (n : Nat) (us : List Value) : Bd := fun h => if h < n then β h else match us[h - n]? with | some u => some u | none => β h
theorem ext_new {us : List Value} {j : Nat} {u : Value} (h : us[j]? = some u) : ext β n us (n + j) = some u := by
  simp [ext, h]
  omega
theorem ext_old {us : List Value} (hf : ∀ j, j < us.length → β (n + j) = none) {h : Nat} {u : Value} (hb : β h = some u) : ext β n us h = some u := by
  unfold ext
  split
  · exact hb
  · rename_i hn
    split
    · rename_i u' hu
      have := hf (h - n) (List.getElem?_eq_some_iff.1 hu).1
      rw [show n + (h - n) = h by omega, hb] at this
      simp at this
    · exact hb
theorem ext_some {us : List Value} {h : Nat} {u : Value} (hb : ext β n us h = some u) : (∃ j, h = n + j ∧ us[j]? = some u) ∨ β h = some u := by
  unfold ext at hb
  split at hb
  · exact .inr hb
  · split at hb
    · rename_i u' hu
      simp at hb
      subst hb
      exact .inl ⟨h - n, by omega, hu⟩
    · exact .inr hb
/-- Behind a quiet operation all is as good as ahead of it. -/
theorem good_quiet (p : Pre L w0 w F0 F β H G n sl) (hf : ∀ j, j < sl.length → β (n + j) = none) (q : QPost P (Bs L w0) F w β G n o a v sl) :
    ∃ v' w' β', (execOp a.eval o).run P w = .ok (.value v') w' ∧ Good L w0 w' F0 F β' G ∧ Keeps F F w w' β β' G G ∧ RepA F w' β' G v v' ∧ Below w.heap.size w w' ∧ (∀ h, β' h ≠ none → β h ≠ none ∨ (n ≤ h ∧ h < n + sl.length)) := by
  obtain ⟨v', w', us, hr, hl, ⟨hb, _⟩, hblk, hall⟩ := q
  have hext : ∀ h u, β h = some u → ext β n us h = some u := fun h u => ext_old (by rwa [hl])
  obtain ⟨hs, hv⟩ := hall (ext β n us) hext fun j u hu => ext_new hu
  have gd := p.good
  have kp : Keeps F F w w' β (ext β n us) G G := keeps_world gd hb hext
  refine ⟨v', w', _, hr, ⟨gd.below.trans hb, fun g hg => Nat.lt_of_lt_of_le (gd.fsz g hg) hb.size, gd.f0, gd.f1, ?_, ?_⟩, kp, hv, hb, ?_⟩
  · intro h u hu
    rcases ext_some hu with ⟨j, rfl, hj⟩ | hu
    · have hj' := (List.getElem?_eq_some_iff.1 hj).1
      rw [hl] at hj'
      have e := List.getElem?_eq_getElem hj'
      exact ⟨_, p.new _ _ e, hs j _ u e hj⟩
    · obtain ⟨s, h1, h2⟩ := gd.dom h u hu
      exact ⟨s, h1, h2.keep kp fun hlive g hg => ⟨hb.block g (h2.lt hlive hg).2.1, id⟩⟩
  · intro h h' s s' u u' g h1 h2 l1 l2 b1 b2 g1 g2
    rcases ext_some b1 with ⟨j, rfl, hj⟩ | b1
    · rcases ext_some b2 with ⟨j', rfl, hj'⟩ | b2
      · rw [(hblk _ _ _ hj g1).1, (hblk _ _ _ hj' g2).1]
      · obtain ⟨s2, e2, ok2⟩ := gd.dom _ _ b2
        rw [h2] at e2
        injection e2 with e2
        subst e2
        have := (ok2.lt l2 g2).2.1
        have := (hblk _ _ _ hj g1).2.1
        omega
    · rcases ext_some b2 with ⟨j', rfl, hj'⟩ | b2
      · obtain ⟨s2, e2, ok2⟩ := gd.dom _ _ b1
        rw [h1] at e2
        injection e2 with e2
        subst e2
        have := (ok2.lt l1 g1).2.1
        have := (hblk _ _ _ hj' g2).2.1
        omega
      · exact gd.sep h h' s s' u u' g h1 h2 l1 l2 b1 b2 g1 g2
  · intro h hh
    cases hb' : ext β n us h with
    | none => exact absurd hb' hh
    | some u =>
      rcases ext_some hb' with ⟨j, rfl, hj⟩ | hb'
      · right
        have := (List.getElem?_eq_some_iff.1 hj).1
        omega
      · left; rw [hb']; simp
/-- More slots behind what is there. -/
theorem good_more (gd : Good L w0 w F0 F β H) (sl : List Slot) : Good L w0 w F0 F β (H ++ sl) ∧ Keeps F F w w β β H (H ++ sl) := by
  have hat : ∀ (h : Nat) (s : Slot), H[h]? = some s → (H ++ sl)[h]? = some s := fun h s hs => by
    rw [List.getElem?_append_left (List.getElem?_eq_some_iff.1 hs).1]; exact hs
  have kp : Keeps F F w w β β H (H ++ sl) := ⟨fun _ h => h, fun _ _ => rfl, fun _ _ h => h, fun h s hs => ⟨s, hat h s hs, by cases s <;> first | trivial | exact ⟨rfl, fun _ => rfl, id⟩⟩⟩
  refine ⟨⟨gd.below, gd.fsz, gd.f0, gd.f1, fun h u hu => ?_, fun h h' s s' u u' g h1 h2 l1 l2 b1 b2 g1 g2 => ?_⟩, kp⟩
  · obtain ⟨s, h1, h2⟩ := gd.dom h u hu
    exact ⟨s, hat h s h1, h2.keep kp fun _ _ _ => ⟨rfl, id⟩⟩
  · obtain ⟨t1, e1, _⟩ := gd.dom _ _ b1
    obtain ⟨t2, e2, _⟩ := gd.dom _ _ b2
    have k1 := hat _ _ e1
    have k2 := hat _ _ e2
    rw [h1] at k1
    rw [h2] at k2
    injection k1 with k1
    injection k2 with k2
    subst k1 k2
    exact gd.sep h h' _ _ u u' g e1 e2 l1 l2 b1 b2 g1 g2
theorem set_at {h : Nat} {s s' : Slot} (hs : H[h]? = some s) : (H.set h s')[h]? = some s' := by
  have := (List.getElem?_eq_some_iff.1 hs).1
  rw [List.getElem?_set_self this]
theorem set_ne {h k : Nat} {s' : Slot} (hk : k ≠ h) : (H.set h s')[k]? = H[k]? := List.getElem?_set_ne (by omega)
theorem like_refl (s : Slot) : Like s s := by cases s <;> first | trivial | exact ⟨rfl, fun _ => rfl, id⟩
theorem keeps_set {h : Nat} {s s' : Slot} (hs : H[h]? = some s) (hl : Like s s') (hf : ∀ g, F g → F' g) (hw : ∀ g, F g → w'.heap[g]? = w.heap[g]?) (hb : ∀ h u, β h = some u → β' h = some u) : Keeps F F' w w' β β' H (H.set h s') := by
  refine ⟨hf, hw, hb, fun k t ht => ?_⟩
  by_cases hk : k = h
  · subst hk
    rw [hs] at ht
    injection ht with ht
    subst ht
    exact ⟨s', set_at hs, hl⟩
  · exact ⟨t, by rw [set_ne hk]; exact ht, like_refl t⟩
/-- One's own block is written. -/
theorem good_write (gd : Good L w0 w F0 F β H) {h g : Nat} {s s' : Slot} {u : Value} (hs : H[h]? = some s) (hlive : s.isLive = true) (hu : β h = some u) (hg : blk u = some g) (hl : Like s s')
    (hb : Below 0 w w') (hsz : w'.heap.size = w.heap.size) (hne : ∀ k, k ≠ g → w'.heap[k]? = w.heap[k]?) (ok : Keeps F F w w' β β H (H.set h s') → SlotOk (Bs L w0) F w' β (H.set h s') s' u) :
    Good L w0 w' F0 F β (H.set h s') ∧ Keeps F F w w' β β H (H.set h s') := by
  have hlt := (gd.slot hu hs).lt hlive hg
  have kp : Keeps F F w w' β β H (H.set h s') := keeps_set hs hl (fun _ h => h) (fun k hk => hne k (fun e => hlt.2.2 (e ▸ hk))) (fun _ _ h => h)
  have hlive' : s'.isLive = true → s.isLive = true := fun _ => hlive
  refine ⟨⟨gd.below.write hb.os hb.tape hb.output (by omega) (fun k _ hn => hne k fun e => hn (e ▸ hlt.1)), fun k hk => by rw [hsz]; exact gd.fsz k hk, gd.f0, gd.f1, fun k u' hu' => ?_, fun k k' t t' v v' b h1 h2 l1 l2 b1 b2 g1 g2 => ?_⟩, kp⟩
  · by_cases hk : k = h
    · subst hk
      rw [hu] at hu'
      injection hu' with hu'
      subst hu'
      exact ⟨s', set_at hs, ok kp⟩
    · obtain ⟨t, e1, e2⟩ := gd.dom k u' hu'
      refine ⟨t, by rw [set_ne hk]; exact e1, e2.keep kp fun hlt' b hb' => ⟨hne b fun e => hk ?_, id⟩⟩
      subst e
      exact gd.sep k h _ _ u' u b e1 hs hlt' hlive hu' hu hb' hg
  · have old : ∀ {k : Nat} {t : Slot}, (H.set h s')[k]? = some t → t.isLive = true → ∃ t0, H[k]? = some t0 ∧ t0.isLive = true := fun {k t} h1 l1 => by
      by_cases hk : k = h
      · subst hk; exact ⟨s, hs, hlive⟩
      · rw [set_ne hk] at h1; exact ⟨t, h1, l1⟩
    obtain ⟨t0, a1, a2⟩ := old h1 l1
    obtain ⟨t1, c1, c2⟩ := old h2 l2
    exact gd.sep k k' t0 t1 v v' b a1 c1 a2 c2 b1 b2 g1 g2
/-- A row stays as it is from now on. -/
theorem good_freeze (gd : Good L w0 w F0 F β H) {h : Nat} {l : Bool} {e : TypeId} {t : Ty} {xs : List t.den} (hs : H[h]? = some (.row l e t xs)) :
    ∃ F', Good L w0 w F0 F' β (H.set h (.row false e t xs)) ∧ Keeps F F' w w β β H (H.set h (.row false e t xs)) ∧ (∀ g, F' g → F g ∨ ∃ u, β h = some u ∧ blk u = some g ∧ Bs L w0 g) ∧ (∀ u g, l = true → β h = some u → blk u = some g → F' g) := by
  cases hu : β h with
  | none =>
    have kp : Keeps F F w w β β H (H.set h (.row false e t xs)) := keeps_set hs ⟨rfl, fun _ => rfl, fun h => by simp at h⟩ (fun _ h => h) (fun _ _ => rfl) (fun _ _ h => h)
    refine ⟨F, ⟨gd.below, gd.fsz, gd.f0, gd.f1, fun k u' hu' => ?_, fun k k' t t' v v' b h1 h2 l1 l2 b1 b2 g1 g2 => ?_⟩, kp, fun g hg => .inl hg, fun u g _ h => by simp at h⟩
    · have hk : k ≠ h := fun e => by subst e; rw [hu] at hu'; simp at hu'
      obtain ⟨t, e1, e2⟩ := gd.dom k u' hu'
      exact ⟨t, by rw [set_ne hk]; exact e1, e2.keep kp fun _ _ _ => ⟨rfl, id⟩⟩
    · have hk : k ≠ h := fun e => by subst e; rw [hu] at b1; simp at b1
      have hk' : k' ≠ h := fun e => by subst e; rw [hu] at b2; simp at b2
      rw [set_ne hk] at h1
      rw [set_ne hk'] at h2
      exact gd.sep k k' t t' v v' b h1 h2 l1 l2 b1 b2 g1 g2
  | some u =>
    have ok := gd.slot hu hs
    have kp : Keeps F (fun g => F g ∨ (l = true ∧ blk u = some g)) w w β β H (H.set h (.row false e t xs)) := keeps_set hs ⟨rfl, fun _ => rfl, fun h => by simp at h⟩ (fun _ h => .inl h) (fun _ _ => rfl) (fun _ _ h => h)
    have hlt : l = true → ∀ g, blk u = some g → Bs L w0 g ∧ g < w.heap.size ∧ ¬ F g := fun hl g hg => ok.lt (by simpa [Slot.isLive] using hl) hg
    refine ⟨_, ⟨gd.below, ?_, ?_, fun g hg => .inl (gd.f1 g hg), fun k u' hu' => ?_, fun k k' t1 t' v v' b h1 h2 l1 l2 b1 b2 g1 g2 => ?_⟩, kp, ?_, fun u' g hl hu' hg => .inr ⟨hl, by injection hu' with hu'; rw [hu']; exact hg⟩⟩
    · rintro g (hg | ⟨hl, hg⟩)
      · exact gd.fsz g hg
      · exact (hlt hl g hg).2.1
    · rintro g (hg | ⟨hl, hg⟩) hlt'
      · exact gd.f0 g hg hlt'
      · exact absurd (hlt hl g hg).1 hlt'
    · by_cases hk : k = h
      · subst hk
        rw [hu] at hu'
        injection hu' with hu'
        subst hu'
        refine ⟨_, set_at hs, ?_⟩
        cases l with
        | false => exact RepC.mono (t := .sl t) kp.f kp.w ok
        | true =>
          obtain ⟨⟨cells, ho, hr⟩, hF⟩ := ok
          exact owns_rep ho (hr.mono fun _ _ => RepC.mono kp.f kp.w) fun g hg => .inr ⟨rfl, hg⟩
      · obtain ⟨t1, e1, e2⟩ := gd.dom k u' hu'
        refine ⟨t1, by rw [set_ne hk]; exact e1, e2.keep kp fun hlt' b hb' => ⟨rfl, fun hn => ?_⟩⟩
        rintro (hf | ⟨hl, hg⟩)
        · exact hn hf
        · exact hk (gd.sep k h _ _ u' u b e1 hs hlt' (by simpa [Slot.isLive] using hl) hu' hu hb' hg)
    · have old : ∀ {k : Nat} {t1 : Slot}, (H.set h (.row false e t xs))[k]? = some t1 → t1.isLive = true → H[k]? = some t1 := fun {k t1} h1 l1 => by
        by_cases hk : k = h
        · subst hk
          rw [set_at hs] at h1
          injection h1 with h1
          subst h1
          simp [Slot.isLive] at l1
        · rw [set_ne hk] at h1; exact h1
      exact gd.sep k k' t1 t' v v' b (old h1 l1) (old h2 l2) l1 l2 b1 b2 g1 g2
    · rintro g (hg | ⟨hl, hg⟩)
      · exact .inl hg
      · exact .inr ⟨u, rfl, hg, (hlt hl g hg).1⟩
end
end Go.Proofs.Ytanpdkllnmeenaa.Am

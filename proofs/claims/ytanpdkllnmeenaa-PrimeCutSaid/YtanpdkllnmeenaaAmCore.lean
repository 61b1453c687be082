/- A machine over values: functions told by lists and numbers, without a memory; slices that a function makes itself are rows of its own. -/
import Derived.Orders
import Derived.Tactics
import Derived.Below
namespace Go.Proofs.Ytanpdkllnmeenaa.Am
open Go
set_option linter.unusedVariables false

inductive Ty where
  | int (k : IntKind) | bool | str | sl (t : Ty) | pair (a b : Ty) | unit | opq
  deriving DecidableEq, Inhabited
@[reducible] def Ty.den : Ty → Type
  | .int _ => Int | .bool => Bool | .str => ByteArray | .sl t => List t.den | .pair a b => a.den × b.den | .unit => Unit | .opq => Unit
def Ty.size : Ty → Nat
  | .pair a b => a.size + b.size | .unit => 0 | _ => 1
def Ty.isAgg : Ty → Bool
  | .pair .. | .unit => true | _ => false
/-- What a map holds: a key and what it has; the unit marks it. -/
abbrev Ty.mpe (k : IntKind) (v : Ty) : Ty := .pair .unit (.pair (.int k) v)
def Ty.isMp : Ty → Bool
  | .pair .unit _ => true | _ => false
/-- No slice stands in it. -/
def Ty.plain : Ty → Bool
  | .sl _ | .opq => false | .pair a b => a.plain && b.plain | _ => true
def Ty.dflt : (t : Ty) → t.den
  | .int _ => (0 : Int) | .bool => false | .str => ByteArray.empty | .sl _ => [] | .pair a b => (a.dflt, b.dflt) | .unit => () | .opq => ()

/-- What a closure holds. -/
inductive PV where
  | val (t : Ty) (x : t.den) | agg (t : Ty) (x : t.den) | fptr (t : Ty) (x : t.den) (off : Nat) | ptr (h i off : Nat)
inductive CV where
  | undef | nils
  | int (k : IntKind) (n : Int) | bool (b : Bool) | str (s : ByteArray)
  | vsl (t : Ty) (xs : List t.den)
  | own (e : TypeId) (t : Ty) (xs : List t.den)
  | ref (h : Nat) | sub (h off len : Nat)
  | ptr (h i off : Nat) | fptr (t : Ty) (x : t.den) (off : Nat)
  | fn (f : FuncId) (first caps : List PV)
  deriving Inhabited
inductive AV where
  | undef | one (c : CV) | agg (cs : List CV) | tup (vs : List (Bool × List CV))
  deriving Inhabited
inductive Slot where
  | dead | row (live : Bool) (e : TypeId) (t : Ty) (xs : List t.den) | box (t : Ty) (cs : List CV)
  | iter (k : IntKind) (v : Ty) (es : List (Unit × Int × v.den)) (seen : List Nat)
  deriving Inhabited
abbrev Heap := List Slot

def flat : (t : Ty) → t.den → List CV
  | .int k, n => [.int k n]
  | .bool, b => [.bool b]
  | .str, s => [.str s]
  | .sl t, xs => [.vsl t xs]
  | .pair a b, p => flat a p.1 ++ flat b p.2
  | .unit, _ => []
  | .opq, _ => [.undef]
/-- The first cells as a value of the type, and the rest. -/
def unflat : (t : Ty) → List CV → Option (t.den × List CV)
  | .int k, .int k' n :: r => if k' = k then some (n, r) else none
  | .bool, .bool b :: r => some (b, r)
  | .str, .str s :: r => some (s, r)
  | .sl t, .vsl t' xs :: r => if h : t' = t then some (h ▸ xs, r) else none
  | .pair a b, cs => (unflat a cs).bind fun p => (unflat b p.2).bind fun q => some ((p.1, q.1), q.2)
  | .unit, cs => some ((), cs)
  | _, _ => none
def unflat1 (t : Ty) (cs : List CV) : Option t.den := (unflat t cs).bind fun p => match p.2 with | [] => some p.1 | _ => none

/-- The cells that a type begins with. -/
def zeroC : Ty → List CV
  | .int k => [.int k 0] | .bool => [.bool false] | .str => [.str ByteArray.empty] | .sl t => match t.isMp with | true => [.undef] | false => [.nils]
  | .pair a b => zeroC a ++ zeroC b | .unit => [] | .opq => [.undef]
/-- Each nil slice gets a row of its own. -/
def fixC (el : Ty → TypeId) : Ty → List CV → Nat → List CV × List Slot × List CV
  | .sl t, .nils :: r, n => match t.isMp with | true => ([.undef], [], r) | false => ([.ref n], [.row true (el t) t []], r)
  | .pair a b, cs, n =>
    let p := fixC el a cs n
    let q := fixC el b p.2.2 (n + p.2.1.length)
    (p.1 ++ q.1, p.2.1 ++ q.2.1, q.2.2)
  | .unit, cs, _ => ([], [], cs)
  | _, c :: r, _ => ([c], [], r)
  | _, [], _ => ([], [], [])
def constC : Value → Option CV
  | .int k n => some (.int k n) | .bool b => some (.bool b) | .string s => some (.str s) | .slice none 0 0 => some .nils
  | .func (.func f) first captured => if first.isEmpty && captured.isEmpty then some (.fn f [] []) else none
  | .nilFunc => some .undef | .pointer none => some .undef | .nilIface => some .undef
  | _ => none
def constA : Value → Option AV
  | .agg cs => (cs.toList.mapM constC).map .agg
  | v => (constC v).map .one
def AV.cells : AV → Option (List CV)
  | .one c => some [c] | .agg cs => some cs | _ => none
def mkAV (agg : Bool) (cs : List CV) : Option AV := if agg then some (.agg cs) else match cs with | [c] => some (.one c) | _ => none

structure Fld where
  off : Nat
  size : Nat
  agg : Bool
/-- What is told of a loop: what lives at its head, behind it, and where it hands back; and which slices stay as they are from then on. -/
structure LH where
  head : List Nat
  exit : List Nat
  ret : List Nat
  zhead : List (Nat × Nat) := []
  zexit : List (Nat × Nat) := []
  zret : List (Nat × Nat) := []
  deriving Inhabited
structure Ctx where
  ty : TypeId → Option Ty
  el : Ty → TypeId
  fld : TypeId → Nat → Option Fld
  hint : FuncId → Nat → LH
  shares : FuncId → Bool
  lends : FuncId → List Nat
  lendc : FuncId → Bool
  pty : FuncId → Nat → Option Ty
  eqs : TypeId → Option (List Ty)
  nxt : Bool := false
  nd : FuncId → Option (AV → Option AV) := fun _ => none
  arr : TypeId → Option (Nat × Ty) := fun _ => none
  nils : FuncId → Bool := fun _ => false
def slotAt (H : Heap) (h : Nat) : Slot := H.getD h .dead
def envAt (env : List AV) (t : Nat) : AV := env.getD t .undef
/-- An operand, as it stands. -/
def opr (env : List AV) : Operand → Option AV
  | .tmp t => match envAt env t with | .undef => none | v => some v
  | .const v => constA v
  | .func f => some (.one (.fn f [] []))
  | .global _ => none
def isConst : Operand → Bool
  | .const _ => true | _ => false
/-- An operand of a type: nil slices get rows. -/
def opd (C : Ctx) (env : List AV) (n : Nat) (t : TypeId) (x : Operand) : Option (AV × List Slot) :=
  match isConst x with
  | false => (opr env x).map fun v => (v, [])
  | true => (opr env x).bind fun v => v.cells.bind fun cs =>
    match C.ty t with
    | none => some (v, [])
    | some ty => match fixC C.el ty cs n with
      | (cs', sl, []) => match v with | .agg _ => some (.agg cs', sl) | _ => (mkAV false cs').map fun v' => (v', sl)
      | _ => none
def cell1 : AV → Option CV
  | .one c => some c | _ => none
def oprC (env : List AV) (x : Operand) : Option CV := (opr env x).bind cell1
def intOf : CV → Option (IntKind × Int)
  | .int k n => some (k, n) | _ => none
def setAt (cs : List CV) (off : Nat) : List CV → List CV
  | [] => cs
  | c :: r => setAt (cs.set off c) (off + 1) r
def PV.cv : PV → Option CV
  | .val t x => match flat t x with | [c] => some c | _ => none
  | .fptr t x o => some (.fptr t x o)
  | .ptr h i o => some (.ptr h i o)
  | .agg .. => none
def PV.av : PV → Option AV
  | .agg t x => some (.agg (flat t x))
  | q => q.cv.map .one
def CV.pv : CV → Option PV
  | .int k n => some (.val (.int k) n) | .bool b => some (.val .bool b) | .str s => some (.val .str s) | .vsl t xs => some (.val (.sl t) xs)
  | .ptr h i o => some (.ptr h i o) | .fptr t x o => some (.fptr t x o) | _ => none
def AV.pv (T : Option Ty) : AV → Option PV
  | .one c => c.pv
  | .agg cs => T.bind fun t => (unflat1 t cs).map (.agg t)
  | _ => none
def pvs (T : Nat → Option Ty) : Nat → List (Option AV) → Option (List PV)
  | _, [] => some []
  | i, v :: r => (v.bind (AV.pv (T i))).bind fun p => (pvs T (i + 1) r).map fun q => p :: q
/-- A slice as a list. -/
def rowOf (H : Heap) : CV → Option ((t : Ty) × List t.den)
  | .vsl t xs => some ⟨t, xs⟩
  | .ref h => match slotAt H h with | .row _ _ t xs => some ⟨t, xs⟩ | _ => none
  | .sub h o l => match slotAt H h with | .row _ _ t xs => some ⟨t, (xs.drop o).take l⟩ | _ => none
  | _ => none
def pure1 (H : Heap) : CV → Option CV
  | .ref h => match slotAt H h with | .row _ _ t xs => some (.vsl t xs) | _ => none
  | .sub h o l => match slotAt H h with | .row _ _ t xs => some (.vsl t ((xs.drop o).take l)) | _ => none
  | .own .. | .ptr .. | .fn .. | .undef => none
  | c => some c
def pureP (H : Heap) : PV → Option PV
  | .ptr h i off => match slotAt H h with
    | .box t cs => (cs.mapM (pure1 H)).bind fun cs' => (unflat1 t cs').bind fun x => if i = 0 then some (.fptr t x off) else none
    | _ => none
  | p => some p
/-- A cell as it is handed to a function: all that is one's own is told as a list. -/
def pureC (H : Heap) : CV → Option CV
  | .ptr h i off => match slotAt H h with
    | .box t cs => (cs.mapM (pure1 H)).bind fun cs' => (unflat1 t cs').bind fun x => if i = 0 then some (.fptr t x off) else none
    | _ => none
  | .fn f a b => (a.mapM (pureP H)).bind fun a' => (b.mapM (pureP H)).bind fun b' => some (.fn f a' b')
  | c => pure1 H c
def pureA (H : Heap) : AV → Option AV
  | .one c => (pureC H c).map .one
  | .agg cs => (cs.mapM (pure1 H)).map .agg
  | _ => none
/-- The handles that a cell tells of. -/
def hsP : PV → List Nat
  | .ptr h _ _ => [h] | _ => []
def hsC : CV → List Nat
  | .ref h | .sub h _ _ | .ptr h _ _ => [h] | .fn _ a b => a.flatMap hsP ++ b.flatMap hsP | _ => []
def hsA : AV → List Nat
  | .one c => hsC c | .agg cs => cs.flatMap hsC | .tup vs => vs.flatMap fun p => p.2.flatMap hsC | .undef => []
/-- May a cell of a result share with what was handed in? -/
def alias1 : CV → Bool
  | .vsl .. | .fptr .. | .fn .. => true | .own _ t _ => !t.plain | _ => false
def aliasA : AV → Bool
  | .one c => alias1 c | .agg cs => cs.any alias1 | .tup vs => vs.any fun p => p.2.any alias1 | .undef => false
def adopt1 (c : CV) (n : Nat) : CV × List Slot :=
  match c with
  | .own e t xs => (.ref n, [.row true e t xs])
  | c => (c, [])
def adoptL : List CV → Nat → List CV × List Slot
  | [], _ => ([], [])
  | c :: r, n => let p := adopt1 c n; let q := adoptL r (n + p.2.length); (p.1 :: q.1, p.2 ++ q.2)
def adoptT : List (Bool × List CV) → Nat → List (Bool × List CV) × List Slot
  | [], _ => ([], [])
  | c :: r, n => let p := adoptL c.2 n; let q := adoptT r (n + p.2.length); ((c.1, p.1) :: q.1, p.2 ++ q.2)
def adoptA : AV → Nat → AV × List Slot
  | .one c, n => let p := adopt1 c n; (.one p.1, p.2)
  | .agg cs, n => let p := adoptL cs n; (.agg p.1, p.2)
  | .tup vs, n => let p := adoptT vs n; (.tup p.1, p.2)
  | .undef, _ => (.undef, [])

def binQ (op : BinOp) (a b : CV) : Option (Bool × CV) :=
  match op, a, b with
  | .shl, .int k x, .int _ y => some (decide (0 ≤ y), .int k (k.wrap (x * 2 ^ (min y.toNat k.bits))))
  | .shr, .int k x, .int _ y => some (decide (0 ≤ y), .int k (x.fdiv (2 ^ (min y.toNat k.bits))))
  | _, .int k x, .int k' y =>
    if k' = k then match op with
      | .add => some (true, .int k (k.wrap (x + y)))
      | .sub => some (true, .int k (k.wrap (x - y)))
      | .mul => some (true, .int k (k.wrap (x * y)))
      | .quo => some (y != 0, .int k (k.wrap (x.tdiv y)))
      | .rem => some (y != 0, .int k (x.tmod y))
      | .and => some (true, .int k (k.wrap (BitVec.ofInt k.bits x &&& BitVec.ofInt k.bits y).toNat))
      | .or => some (true, .int k (k.wrap (BitVec.ofInt k.bits x ||| BitVec.ofInt k.bits y).toNat))
      | .xor => some (true, .int k (k.wrap (BitVec.ofInt k.bits x ^^^ BitVec.ofInt k.bits y).toNat))
      | .eql => some (true, .bool (x == y))
      | .neq => some (true, .bool (x != y))
      | .lss => some (true, .bool (decide (x < y)))
      | .leq => some (true, .bool (decide (x ≤ y)))
      | .gtr => some (true, .bool (decide (x > y)))
      | .geq => some (true, .bool (decide (x ≥ y)))
      | _ => none
    else none
  | _, _, _ => none
/-- Comparisons of bools and strings. -/
def binT (T : Option Ty) (op : BinOp) (a b : CV) : Option CV :=
  match T, op, a, b with
  | some .bool, .eql, .bool x, .bool y => some (.bool (x == y))
  | some .bool, .neq, .bool x, .bool y => some (.bool (!(x == y)))
  | some .str, .eql, .str x, .str y => some (.bool (x.toList == y.toList))
  | some .str, .neq, .str x, .str y => some (.bool (!(x.toList == y.toList)))
  | _, _, _, _ => none
/-- Two structs of plain cells. -/
def eqCs : List Ty → List CV → List CV → Option Bool
  | [], [], [] => some true
  | .int _ :: T, .int k a :: r, .int k' b :: s => if k' = k then (eqCs T r s).map fun q => (a == b && q) else none
  | .bool :: T, .bool a :: r, .bool b :: s => (eqCs T r s).map fun q => (a == b && q)
  | .str :: T, .str a :: r, .str b :: s => (eqCs T r s).map fun q => (a.toList == b.toList && q)
  | _, _, _ => none
def eqS (T : List Ty) (op : BinOp) (u v : AV) : Option CV := match u, v with
  | .agg cs, .agg ds => (match op with
    | .eql => (eqCs T cs ds).map .bool
    | .neq => (eqCs T cs ds).map fun q => .bool (!q)
    | _ => none)
  | _, _ => none
def unQ (op : UnOp) (a : CV) : Option CV :=
  match op, a with
  | .not, .bool b => some (.bool (!b))
  | .neg, .int k n => some (.int k (k.wrap (0 - n)))
  | _, _ => none
/-- The greater, or the lesser one. -/
def mmQ (g : Bool) (a b : CV) : Option CV :=
  match a, b with
  | .int k x, .int k' y => if k' = k then some (.int k (if g then max x y else min x y)) else none
  | _, _ => none
def cutC (cs : List CV) (off size : Nat) : Option (List CV) := if off + size ≤ cs.length then some ((cs.drop off).take size) else none
def readP (H : Heap) (size : Nat) : CV → Option (List CV)
  | .ptr h i off => match slotAt H h with
    | .box _ cs => cutC cs off size
    | .row _ _ t xs => match t.isMp with | true => none | false => cutC (flat t (xs.getD i t.dflt)) off size
    | _ => none
  | .fptr t x off => cutC (flat t x) off size
  | _ => none
def lenOf (T : Ty) (H : Heap) (c : CV) : Option Int :=
  match T, c with
  | .str, .str s => some (s.size : Int)
  | .sl t, .sub h _ l => match slotAt H h with | .row .. => (match t.isMp with | true => none | false => some (l : Int)) | _ => none
  | .sl t, c => (rowOf H c).bind fun r => match t.isMp with | true => none | false => match r.1.isMp with | true => none | false => some (r.2.length : Int)
  | _, _ => none
def asRef : CV → Option Nat
  | .ref h => some h | _ => none
theorem asRef_ok {c : CV} {h : Nat} (e : asRef c = some h) : c = .ref h := by
  cases c <;> simp [asRef] at e
  rw [e]
def foldB (H : Heap) (C : Ctx) (t : TypeId) (env : List AV) : List (Nat × Operand) → List CV → Option (List CV)
  | [], cs => some cs
  | (i, x) :: r, cs => (C.fld t i).bind fun f => (opr env x).bind fun v => v.cells.bind fun us =>
    if us.length = f.size ∧ f.off + f.size ≤ cs.length then foldB H C t env r (setAt cs f.off us) else none
def foldS (H : Heap) (e : Ty) (env : List AV) : List (Nat × Operand) → List e.den → Option (List e.den)
  | [], xs => some xs
  | (i, x) :: r, xs => (opr env x).bind fun v => v.cells.bind fun us => (unflat1 e us).bind fun y =>
    if i < xs.length then foldS H e env r (xs.set i y) else none
def bndQ (env : List AV) : Option Operand → Option (Option Int)
  | none => some none
  | some a => ((oprC env a).bind intOf).map fun (p : IntKind × Int) => some p.2
/-- A field behind a pointer. -/
def fldP (H : Heap) (off : Nat) : CV → Option CV
  | .ptr h i o => match slotAt H h with | .dead => none | _ => some (.ptr h i (o + off))
  | .fptr t x o => some (.fptr t x (o + off))
  | _ => none
def nilP (H : Heap) : CV → Option CV
  | .ptr h i o => match slotAt H h with | .dead => none | _ => some (.ptr h i o)
  | .fptr t x o => some (.fptr t x o)
  | _ => none
def chkS (lo hi : Option Int) (n : Nat) : Bool :=
  match lo, hi with
  | none, none => true | some l, none => decide (0 ≤ l) && decide (l ≤ (n : Int)) | none, some h => decide (0 ≤ h) && decide (h ≤ (n : Int))
  | some l, some h => decide (0 ≤ l) && (decide (l ≤ h) && decide (h ≤ (n : Int)))
def cutS {α : Type} (lo hi : Option Int) (xs : List α) : List α :=
  match lo, hi with
  | none, none => xs | some l, none => xs.drop l.toNat | none, some h => xs.take h.toNat | some l, some h => (xs.take h.toNat).drop l.toNat
def sliceQ (T : Ty) (H : Heap) (lo hi : Option Int) (c : CV) : Option (Bool × CV) :=
  match c with
  | .vsl t xs => if T = .sl t ∧ t.isMp = false then some (chkS lo hi xs.length, .vsl t (cutS lo hi xs)) else none
  | .ref h => match slotAt H h with
    | .row _ _ t xs => if T = .sl t ∧ t.isMp = false then some (chkS lo hi xs.length, .sub h ((lo.getD 0).toNat) ((hi.getD xs.length).toNat - (lo.getD 0).toNat)) else none
    | _ => none
  | .sub h o l => match slotAt H h with
    | .row _ _ t xs => if T = .sl t ∧ t.isMp = false then some (chkS lo hi l, .sub h (o + (lo.getD 0).toNat) ((hi.getD l).toNat - (lo.getD 0).toNat)) else none
    | _ => none
  | _ => none
def byteAt (s : ByteArray) (i : Nat) : Int := match s[i]? with | some b => (b.toNat : Int) | none => 0
/-! Maps. -/
def mhas {V : Type} (xs : List (Unit × Int × V)) (n : Int) : Bool := xs.any fun e => e.2.1 == n
def mget {V : Type} (d : V) : List (Unit × Int × V) → Int → V
  | [], _ => d
  | e :: r, n => if e.2.1 = n then e.2.2 else mget d r n
def mset {V : Type} : List (Unit × Int × V) → Int → V → List (Unit × Int × V)
  | [], n, y => [((), n, y)]
  | e :: r, n, y => if e.2.1 = n then ((), n, y) :: r else e :: mset r n y
def lookM (ok : Bool) (k' : IntKind) (n : Int) : (t : Ty) → List t.den → Option AV
  | .pair .unit (.pair (.int k) v), xs => if k' = k then (match ok with
    | false => mkAV v.isAgg (flat v (mget v.dflt xs n))
    | true => some (.tup [(v.isAgg, flat v (mget v.dflt xs n)), (false, [.bool (mhas xs n)])])) else none
  | _, _ => none
def cands (n : Nat) (seen : List Nat) : List Nat := (List.range n).filter fun i => !seen.contains i
def cur {V : Type} (d : V) (es : List (Unit × Int × V)) (seen : List Nat) : Unit × Int × V := es.getD (seen.getLastD 0) ((), 0, d)
open Classical in
/-- Whichever comes: it must come to the same. -/
noncomputable def pickAll {V R : Type} (es : List (Unit × Int × V)) (seen : List Nat) (over : Option R) (f : Nat → (Unit × Int × V) → Option R) : Option R :=
  match (cands es.length seen).filterMap fun i => (es[i]?).map fun x => (i, x) with
  | [] => over
  | p :: r => if ∀ q ∈ r, f q.1 q.2 = f p.1 p.2 then f p.1 p.2 else none
/-- The operations that change nothing that is there: a check, what comes, and new rows from the number n on. -/
def opQ (C : Ctx) (env : List AV) (H : Heap) (n : Nat) (o : Oper) : Option (Bool × AV × List Slot) :=
  match o.op with
  | .move x | .assign x => (opd C env n o.type x).map fun p => (true, p.1, p.2)
  | .alloc e => match C.arr e with
   | some q => some (true, .one (.ptr n 0 0), [.row true e q.2 (List.replicate q.1 q.2.dflt)])
   | none => (C.ty e).bind fun t => match fixC C.el t (zeroC t) (n + 1) with | (cs, sl, []) => some (true, .one (.ptr n 0 0), .box t cs :: sl) | _ => none
  | .box e x => (C.ty e).bind fun t => (opd C env (n + 1) e x).bind fun p => p.1.cells.bind fun cs => some (true, .one (.ptr n 0 0), .box t cs :: p.2)
  | .build t parts => (C.fld t 0).bind fun _ => (C.ty t).bind fun ty => (foldB H C t env parts.toList (zeroC ty)).bind fun cs =>
    match fixC C.el ty cs n with | (cs', sl, []) => some (true, .agg cs', sl) | _ => none
  | .buildSlice t len parts => match C.ty t with
    | some (.sl e) => (foldS H e env parts.toList (List.replicate len e.dflt)).bind fun xs => if len * e.size ≤ 16777216 ∧ e.isMp = false then some (true, .one (.ref n), [.row true (C.el e) e xs]) else none
    | _ => none
  | .load t a => (C.ty t).bind fun ty => (oprC env a).bind fun c => (readP H ty.size c).bind fun cs => (mkAV ty.isAgg cs).map fun v => (true, v, [])
  | .nilCheck x => (oprC env x).bind fun c => (nilP H c).map fun q => (true, .one q, [])
  | .binOp op t x y _ => match C.eqs t with
   | some T => (opr env x).bind fun u => (opr env y).bind fun v => (eqS T op u v).map fun c => (true, .one c, [])
   | none => (oprC env x).bind fun a => (oprC env y).bind fun b => match binQ op a b with
    | some p => some (p.1, .one p.2, [])
    | none => (binT (C.ty t) op a b).map fun c => (true, .one c, [])
  | .unOp op _ x => (oprC env x).bind fun a => (unQ op a).map fun c => (true, .one c, [])
  | .convert s d x => (oprC env x).bind fun a => match C.ty s, C.ty d, a with
    | some (.int _), some (.int k), .int _ m => some (true, .one (.int k (k.wrap m)), [])
    | _, _, _ => none
  | .makeFunc (.func f) a b => (pvs (C.pty f) 0 (a.toList.map (opr env))).bind fun a' => (pvs (fun _ => none) 0 (b.toList.map (opr env))).map fun b' => (true, .one (.fn f a' b'), [])
  | .makeSlice t l c => match C.ty t with
    | some (.sl e) => match e.isMp with | true => none | false => (oprC env l).bind fun a => (intOf a).bind fun p => (oprC env c).bind fun b => (intOf b).map fun q =>
      (decide (0 ≤ p.2) && (decide (p.2 ≤ q.2) && decide (q.2 < 1099511627776)), .one (.ref n), [.row true (C.el e) e (List.replicate p.2.toNat e.dflt)])
    | _ => none
  | .slice ty x lo hi none => (C.ty ty).bind fun T => (oprC env x).bind fun c =>
    (bndQ env lo).bind fun lo' => (bndQ env hi).bind fun hi' =>
    (sliceQ T H lo' hi' c).map fun (p : Bool × CV) => (p.1, .one p.2, [])
  | .fieldAddr s x f => (oprC env x).bind fun c => (C.fld s f).bind fun fl => (fldP H fl.off c).map fun q => (true, .one q, [])
  | .field s x f => (opr env x).bind fun v => (C.fld s f).bind fun fl => match v with
    | .agg cs => (cutC cs fl.off fl.size).bind fun us => (mkAV fl.agg us).map fun v => (true, v, [])
    | _ => none
  | .indexAddr ty x ix => match C.arr ty with
   | some q => (oprC env x).bind fun c => (oprC env ix).bind fun j => (intOf j).bind fun p => match c with
    | .ptr h 0 0 => match slotAt H h with
      | .row _ _ t xs => if t = q.2 then some (decide (0 ≤ p.2) && (decide (p.2 < xs.length) && decide (p.2 < (q.1 : Int))), .one (.ptr h p.2.toNat 0), []) else none
      | _ => none
    | _ => none
   | none => (C.ty ty).bind fun T => (oprC env x).bind fun c => (oprC env ix).bind fun j => (intOf j).bind fun p => match c with
    | .vsl t xs => if T = .sl t ∧ t.isMp = false then some (decide (0 ≤ p.2) && decide (p.2 < xs.length), .one (.fptr t (xs.getD p.2.toNat t.dflt) 0), []) else none
    | .ref h => match slotAt H h with
      | .row _ _ t xs => if T = .sl t ∧ t.isMp = false then some (decide (0 ≤ p.2) && decide (p.2 < xs.length), .one (.ptr h p.2.toNat 0), []) else none
      | _ => none
    | .sub h o l => match slotAt H h with
      | .row _ _ t xs => if T = .sl t ∧ t.isMp = false then some (decide (0 ≤ p.2) && decide (p.2 < l), .one (.ptr h (o + p.2.toNat) 0), []) else none
      | _ => none
    | _ => none
  | .extract x i => (opr env x).bind fun v => match v with
    | .tup vs => (vs[i]?).bind fun p => (mkAV p.1 p.2).map fun v => (true, v, [])
    | _ => none
  | .index t x ix => match C.ty t with
    | some .str => (oprC env x).bind fun c => (oprC env ix).bind fun j => (intOf j).bind fun p => match c with
      | .str s => some (decide (0 ≤ p.2) && decide (p.2 < (s.size : Int)), .one (.int .u8 (byteAt s p.2.toNat)), [])
      | _ => none
    | _ => none
  | .entry x => (oprC env x).bind fun c => (asRef c).bind fun h => match slotAt H h with
    | .iter k v es seen => some (!seen.isEmpty, .tup [(false, [.int k (cur v.dflt es seen).2.1]), (v.isAgg, flat v (cur v.dflt es seen).2.2)], [])
    | _ => none
  | .makeMap t none => match C.ty t with
    | some (.sl e) => match e.isMp with | true => some (true, .one (.ref n), [.row true (C.el e) e []]) | false => none
    | _ => none
  | .lookup t x ix ok => (C.ty t).bind fun T => (oprC env x).bind fun c => (oprC env ix).bind fun j => (intOf j).bind fun p => (rowOf H c).bind fun r =>
    if T = .sl r.1 then (lookM ok p.1 p.2 r.1 r.2).map fun v => (true, v, []) else none
  | .call { callee := .builtin .len, args, argTypes } => (args[0]?).bind fun x => (argTypes[0]?).bind fun ty => (C.ty ty).bind fun T => (oprC env x).bind fun c => (lenOf T H c).map fun m => (true, .one (.int .i64 m), [])
  | .call { callee := .builtin .max, args, argTypes := _ } => match args.toList with | [x, y] => (oprC env x).bind fun a => (oprC env y).bind fun b => (mmQ true a b).map fun c => (true, .one c, []) | _ => none
  | .call { callee := .builtin .min, args, argTypes := _ } => match args.toList with | [x, y] => (oprC env x).bind fun a => (oprC env y).bind fun b => (mmQ false a b).map fun c => (true, .one c, []) | _ => none
  | _ => none
/-- What is laid into a row stays as it is from then on. -/
def frz1 (H : Heap) : CV → Option (CV × Heap)
  | .ref h => match slotAt H h with | .row _ e t xs => some (.vsl t xs, H.set h (.row false e t xs)) | _ => none
  | .sub h o l => match slotAt H h with | .row _ e t xs => some (.vsl t ((xs.drop o).take l), H.set h (.row false e t xs)) | _ => none
  | c => some (c, H)
def frzL (H : Heap) : List CV → Option (List CV × Heap)
  | [] => some ([], H)
  | c :: r => (frz1 H c).bind fun p => (frzL p.2 r).map fun q => (p.1 :: q.1, q.2)
def foldF (e : Ty) (env : List AV) : List (Nat × Operand) → List e.den → Heap → Option (List e.den × Heap)
  | [], xs, H => some (xs, H)
  | (i, x) :: r, xs, H => (opr env x).bind fun v => v.cells.bind fun us => (frzL H us).bind fun p => (unflat1 e p.1).bind fun y =>
    if i < xs.length then foldF e env r (xs.set i y) p.2 else none
def storeP (H : Heap) (us : List CV) (sl : List Slot) (c : CV) : Option Heap :=
  match c with
  | .ptr h i off => match slotAt H h with
    | .box bt cs => if i = 0 ∧ off + us.length ≤ cs.length then some ((H.set h (.box bt (setAt cs off us))) ++ sl) else none
    | .row .. => if sl.length = 0 then (frzL H us).bind fun p => match slotAt p.2 h with
      | .row true e t xs => if off + us.length ≤ t.size ∧ t.isMp = false then (unflat1 t (setAt (flat t (xs.getD i t.dflt)) off p.1)).map fun y => p.2.set h (.row true e t (xs.set i y)) else none
      | _ => none
      else none
    | _ => none
  | _ => none
def castRow (t : Ty) (r : (t : Ty) × List t.den) : Option (List t.den) := if h : r.1 = t then some (h ▸ r.2) else none
def AV.agg? : AV → Bool
  | .agg _ => true | _ => false
def storeM (H : Heap) (T : Ty) (h : Nat) (k' : IntKind) (n : Int) (agg : Bool) (us : List CV) : Option Heap := (frzL H us).bind fun p => match slotAt p.2 h with
  | .row true e (.pair .unit (.pair (.int k) v)) xs => if T = .sl (.mpe k v) ∧ k' = k ∧ agg = v.isAgg then (unflat1 v p.1).map fun y => p.2.set h (.row true e (.mpe k v) (mset xs n y)) else none
  | _ => none
def mapK (C : Ctx) (env : List AV) (H : Heap) (t : TypeId) (m key x : Operand) : Option Heap :=
  (C.ty t).bind fun T => (oprC env m).bind fun c => (oprC env key).bind fun j => (intOf j).bind fun p => (opr env x).bind fun u => u.cells.bind fun us => (asRef c).bind fun h => storeM H T h p.1 p.2 u.agg? us
/-- The operations that change what is there. -/
def opE (C : Ctx) (env : List AV) (H : Heap) (o : Oper) : Option (Bool × AV × Heap) :=
  match o.op with
  | .store t a x => (C.ty t).bind fun ty => (oprC env a).bind fun c => (opd C env H.length t x).bind fun p => p.1.cells.bind fun us =>
    if us.length = ty.size then (storeP H us p.2 c).map fun H' => (true, .undef, H') else none
  | .buildSlice t len parts => match C.ty t with
    | some (.sl e) => (foldF e env parts.toList (List.replicate len e.dflt) H).bind fun p => if len * e.size ≤ 16777216 ∧ e.isMp = false then some (true, .one (.ref p.2.length), p.2 ++ [Slot.row true (C.el e) e p.1]) else none
    | _ => none
  | .range t x => (C.ty t).bind fun T => (oprC env x).bind fun c => (asRef c).bind fun h => match slotAt H h with
    | .row true e (.pair .unit (.pair (.int k) v)) xs => if T = .sl (.mpe k v) then some (true, .one (.ref H.length), (H.set h (.row false e (.mpe k v) xs)) ++ [Slot.iter k v xs []]) else none
    | _ => none
  | .mapUpdate t m key x => (mapK C env H t m key x).map fun H' => (true, .undef, H')
  | .insert t m key x => (mapK C env H t m key x).map fun H' => (true, .undef, H')
  | .call { callee := .builtin .append, args, argTypes } => match args.toList, argTypes.toList with
    | [s, x], [t1, t2] => if t1 = t2 then (C.ty t1).bind fun T => (oprC env s).bind fun a => (oprC env x).bind fun b => match a with
      | .ref h => match slotAt H h with
        | .row true i t xs => if T = .sl t ∧ i = C.el t ∧ t.isMp = false then (rowOf H b).bind fun r => (castRow t r).map fun ys =>
            (decide ((xs ++ ys).length < 1099511627776), .one (.ref H.length), (H.set h .dead) ++ [Slot.row true i t (xs ++ ys)]) else none
        | _ => none
      | _ => none
      else none
    | _, _ => none
  | _ => none

inductive Ex where
  | normal | exit (id : Nat) | ret
/-! ### States, told anew: what is alive, the rows by new numbers -/
def roots (env : List AV) (live : List Nat) : List Nat := live.flatMap fun t => hsA (envAt env t)
def reach (H : Heap) : Nat → List Nat → List Nat → List Nat
  | 0, _, acc => acc
  | _ + 1, [], acc => acc
  | k + 1, h :: r, acc => if acc.contains h then reach H k r acc else
    match slotAt H h with
    | .box _ cs => reach H k (cs.flatMap hsC ++ r) (acc ++ [h])
    | .dead => reach H k r acc
    | _ => reach H k r (acc ++ [h])
def newH (ord : List Nat) (h : Nat) : Option Nat := ord.idxOf? h
def renP (ord : List Nat) : PV → Option PV
  | .ptr h i o => (newH ord h).map fun h => .ptr h i o
  | p => some p
def ren1 (ord : List Nat) : CV → CV
  | .ref h => match newH ord h with | some h => .ref h | none => .undef
  | .sub h o l => match newH ord h with | some h => .sub h o l | none => .undef
  | .ptr h i o => match newH ord h with | some h => .ptr h i o | none => .undef
  | .fn f a b => match a.mapM (renP ord), b.mapM (renP ord) with | some a, some b => .fn f a b | _, _ => .undef
  | c => c
def renA (ord : List Nat) : AV → AV
  | .one c => .one (ren1 ord c)
  | .agg cs => .agg (cs.map (ren1 ord))
  | .tup _ => .undef
  | .undef => .undef
def renS (ord : List Nat) : Slot → Slot
  | .box t cs => .box t (cs.map (ren1 ord))
  | s => s
def keepFrom (live : List Nat) (ord : List Nat) : Nat → List AV → List AV
  | _, [] => []
  | i, v :: r => (if live.contains i then renA ord v else .undef) :: keepFrom live ord (i + 1) r
structure St where
  env : List AV
  heap : Heap
  roots : List CV
  deriving Inhabited
/-- What a function is handed: values, and what it may write of the caller's. -/
structure Pack where
  vs : List AV
  heap : Heap
  roots : List CV
def put (env : List AV) (d : Option Tmp) (v : AV) : List AV := match d with | some d => env.set d v | none => env
/-- Rows that a result may share with stay as they are from now on. -/
def freeze (H : Heap) : List Nat → Option Heap
  | [] => some H
  | h :: hs => match slotAt H h with
    | .row _ e t xs => freeze (H.set h (.row false e t xs)) hs
    | _ => none
section
variable {R : Type}
def callee (env : List AV) (f : Operand) : Option (FuncId × List PV × List PV) :=
  (oprC env f).bind fun c => match c with | .fn f a b => some (f, a, b) | _ => none
/-- Nil slices as lists. -/
def nilC : Ty → List CV → List CV × List CV
  | .sl t, .nils :: r => match t.isMp with | true => ([.undef], r) | false => ([.vsl t []], r)
  | .pair a b, cs => let p := nilC a cs; let q := nilC b p.2; (p.1 ++ q.1, q.2)
  | .unit, cs => ([], cs)
  | _, c :: r => ([c], r)
  | _, [] => ([], [])
def argD1 (C : Ctx) (env : List AV) (b : Bool) (t : TypeId) (x : Operand) : Option AV :=
  match isConst x && !b with
  | false => opr env x
  | true => (opr env x).bind fun v => match C.ty t with
    | none => some v
    | some ty => match v with
      | .one c => match nilC ty [c] with | ([c'], []) => some (.one c') | _ => none
      | .agg cs => match nilC ty cs with | (cs', []) => some (.agg cs') | _ => none
      | _ => none
def argD (C : Ctx) (env : List AV) (b : Bool) : List Operand → List TypeId → Option (List AV)
  | [], _ => some []
  | x :: l, t :: m => (argD1 C env b t x).bind fun u => (argD C env b l m).map fun r => u :: r
  | _ :: _, [] => none
/-- Are nil slices handed on as such? -/
def keepN (C : Ctx) (c : Call) : Bool := match c.callee with
  | .value (.func g) => C.nils g
  | _ => false
def mapA {α β : Type} (f : α → Option β) : List α → Option (List β)
  | [] => some []
  | a :: l => (f a).bind fun b => (mapA f l).map fun r => b :: r
/-- What a call is handed: the arguments, told as values, and whose rows they are. -/
def argsOf (C : Ctx) (env : List AV) (H : Heap) (c : Call) (a b : List PV) : Option (List AV × List Nat) :=
  (argD C env (keepN C c) c.args.toList c.argTypes.toList).bind fun vs =>
  (mapA PV.av a).bind fun a' => (mapA PV.av b).bind fun b' =>
  (mapA (pureA H) (a' ++ (vs ++ b'))).map fun us => (us, (a'.flatMap hsA) ++ (vs.flatMap hsA ++ b'.flatMap hsA))
abbrev CallK (R : Type) := FuncId → Pack → (AV → Option R) → Option R
/-! What is lent to be written: variables behind pointers, and rows. -/
def lentV (C : Ctx) : AV → List Nat
  | .one (.fn f a b) => match C.lendc f with | true => a.flatMap hsP ++ b.flatMap hsP | false => []
  | _ => []
def lentC : AV → List Nat
  | .one (.ref h) => [h]
  | .one (.ptr h _ _) => [h]
  | _ => []
def lentAt (C : Ctx) (ls : List Nat) : Nat → List AV → List Nat
  | _, [] => []
  | i, v :: r => (match ls.contains i with | true => lentC v | false => lentV C v) ++ lentAt C ls (i + 1) r
def lentOf (C : Ctx) (env : List AV) (g : FuncId) (c : Call) (a b : List PV) : Option (List Nat) :=
  (argD C env (keepN C c) c.args.toList c.argTypes.toList).map fun us => (match C.lendc g with | true => a.flatMap hsP ++ b.flatMap hsP | false => []) ++ lentAt C (C.lends g) 0 us
def packP (H : Heap) (ord : List Nat) : PV → Option PV
  | .ptr h i o => match ord.contains h with | true => renP ord (.ptr h i o) | false => pureP H (.ptr h i o)
  | p => some p
def packC (H : Heap) (ord : List Nat) : CV → Option CV
  | .ref h => match ord.contains h with | true => some (ren1 ord (.ref h)) | false => pure1 H (.ref h)
  | .sub h o l => match ord.contains h with | true => some (ren1 ord (.sub h o l)) | false => pure1 H (.sub h o l)
  | .ptr h i o => match ord.contains h with | true => some (ren1 ord (.ptr h i o)) | false => pureC H (.ptr h i o)
  | .fn f a b => (a.mapM (packP H ord)).bind fun a' => (b.mapM (packP H ord)).bind fun b' => some (.fn f a' b')
  | c => pure1 H c
def packA (H : Heap) (ord : List Nat) : AV → Option AV
  | .one c => (packC H ord c).map .one
  | .agg cs => (cs.mapM (packC H ord)).map .agg
  | _ => none
def rootC (H : Heap) (ord : List Nat) (h : Nat) : Option CV := match newH ord h with
  | some k => match slotAt H h with | .box .. => some (.ptr k 0 0) | .row true .. => some (.ref k) | _ => none
  | none => none
def isRow (H : Heap) (h : Nat) : Bool := match slotAt H h with | .row .. => true | _ => false
def packOf (C : Ctx) (env : List AV) (H : Heap) (c : Call) (a b : List PV) (hsL : List Nat) : Option (Pack × List Nat × List Nat) :=
  (argD C env (keepN C c) c.args.toList c.argTypes.toList).bind fun us => (mapA PV.av a).bind fun a' => (mapA PV.av b).bind fun b' =>
  let vs := a' ++ (us ++ b')
  let ord := reach H (H.length * 8 + 64) hsL []
  let hs := (vs.flatMap hsA).filter fun h => !ord.contains h
  match decide ord.Nodup && (decide hsL.Nodup && hs.all (isRow H)) with
  | false => none
  | true => (mapA (packA H ord) vs).bind fun us' => (mapA (rootC H ord) hsL).map fun rts => (⟨us', ord.map fun h => renS ord (slotAt H h), rts⟩, hs, ord)
def killAll (H : Heap) : List Nat → Heap
  | [] => H
  | h :: r => killAll (H.set h .dead) r
/-- What came back of what was lent, in its place. -/
def putParts (H : Heap) : List Nat → List (Bool × List CV) → Heap → Option Heap
  | [], _, H2 => some H2
  | _ :: _, [], _ => none
  | h :: r, (_, cs) :: us, H2 => match slotAt H h with
    | .box t _ => putParts H r us (H2.set h (.box t cs))
    | .row true e t xs => match cs with
      | [.ref k] => match slotAt H2 k with
        | .row true e' t' xs' => if t' = t ∧ H.length ≤ k then putParts H r us ((H2.set k .dead).set h (.row true e' t' xs')) else none
        | _ => none
      | _ => none
    | _ => none
def afterL (H : Heap) (hsL hs ord : List Nat) : AV → Option (AV × Heap)
  | .tup us => match (match us.any (fun p => p.2.any alias1) with | false => some H | true => freeze H hs) with
    | none => none
    | some H1 => match adoptT us (killAll H1 ord).length with
      | (us', sl) => (putParts H hsL (us'.take hsL.length) (killAll H1 ord ++ sl)).bind fun H3 => match us'.drop hsL.length with
        | [u] => (mkAV u.1 u.2).map fun v => (v, H3)
        | rest => some (.tup rest, H3)
  | _ => none
open Classical in
/-- Both ways come to the same. -/
noncomputable def both (x y : Option R) : Option R := if x = y then x else none
/-- Is a slice compared with nil? Of one that isn't empty the answer is known. -/
def nilT (C : Ctx) (env : List AV) (op : BinOp) (t : TypeId) (x y : Operand) : Option Bool :=
  match op, y with
  | .eql, .const (.slice none 0 0) => match C.ty t with
    | some (.sl T) => (oprC env x).bind fun c => match c with
      | .vsl T' xs => match T.isMp || T'.isMp with | true => none | false => some xs.isEmpty
      | _ => none
    | _ => none
  | _, _ => none
/-- One operation. -/
noncomputable def doK (C : Ctx) (call : CallK R) (quiet : Bool) (o : Oper) (env : List AV) (H : Heap) (K : AV → Heap → Option R) : Option R :=
  match o.op with
  | .pick c a b => match oprC env c with
    | some (.bool t) => match t with
      | true => match opr env a with | some v => K v H | none => none
      | false => match opr env b with | some v => K v H | none => none
    | _ => none
  | .next x s => match C.nxt, quiet, s with
    | true, false, false => match oprC env x with
      | some (.ref h) => match slotAt H h with
        | .iter k v es seen => pickAll es seen (K (.tup [(false, [.bool false])]) H) fun i e => K (.tup [(false, [.bool true]), (false, [.int k e.2.1]), (v.isAgg, flat v e.2.2)]) (H.set h (.iter k v es (seen ++ [i])))
        | _ => none
      | _ => none
    | _, _, _ => none
  | .binOp op t x y _ => match C.nxt, quiet, nilT C env op t x y with
    | true, false, some e => (match e with
      | true => both (K (.one (.bool true)) H) (K (.one (.bool false)) H)
      | false => K (.one (.bool false)) H)
    | _, _, _ => match opQ C env H H.length o with
      | some (b, v, sl) => match b with | true => K v (H ++ sl) | false => none
      | none => if quiet then none else match opE C env H o with
        | some (b, v, H') => match b with | true => K v H' | false => none
        | none => none
  | .call c => match c.callee with
    | .value f => match callee env f with
      | none => none
      | some (g, a, b) => match lentOf C env g c a b with
        | none => none
        | some [] => match argsOf C env H c a b with
          | none => none
          | some (vs, hs) => call g ⟨vs, [], []⟩ fun r =>
            match (match aliasA r with | false => some H | true => if quiet && !hs.isEmpty then none else freeze H hs) with
            | none => none
            | some H' => match adoptA r H'.length with | (r', sl) => K r' (H' ++ sl)
        | some (h :: hsL) => match quiet with
          | true => none
          | false => match packOf C env H c a b (h :: hsL) with
            | none => none
            | some (pk, hs, ord) => call g pk fun r => match afterL H (h :: hsL) hs ord r with
              | none => none
              | some (r', H') => K r' H'
    | _ => match opQ C env H H.length o with
      | some (b, v, sl) => match b with | true => K v (H ++ sl) | false => none
      | none => if quiet then none else match opE C env H o with
        | some (b, v, H') => match b with | true => K v H' | false => none
        | none => none
  | _ => match opQ C env H H.length o with
    | some (b, v, sl) => match b with | true => K v (H ++ sl) | false => none
    | none => if quiet then none else match opE C env H o with
      | some (b, v, H') => match b with | true => K v H' | false => none
      | none => none
/-- Operations one behind the other; the first q ones change nothing that is there; those of 'lt' may come late, and look at nothing that is there. -/
noncomputable def opsK (C : Ctx) (call : CallK R) (ops : Array Oper) : (q : Nat) → (lt : List Bool) → List Oper → St → (St → Option R) → Option R
  | _, _, [], st, K => K st
  | q, lt, o :: rest, st, K =>
    match lt.headD false with
    | true => match o.guard with
      | none => match opQ C st.env [] 0 o with
        | some (b, v, []) => match b with | true => opsK C call ops (q - 1) lt.tail rest ⟨put st.env o.dst v, st.heap, st.roots⟩ K | false => none
        | _ => none
      | some _ => none
    | false => match o.guard with
    | none => doK C call (0 < q) o st.env st.heap fun v H => opsK C call ops (q - 1) lt.tail rest ⟨put st.env o.dst v, H, st.roots⟩ K
    | some (j, want) => match (ops[j]?).bind (·.dst) with
      | none => none
      | some d => match envAt st.env d with
        | .one (.bool b) => match b with
          | true => match want with
            | true => doK C call (0 < q) o (st.env.set d (.one (.bool true))) st.heap fun v H => opsK C call ops (q - 1) lt.tail rest ⟨put (st.env.set d (.one (.bool true))) o.dst v, H, st.roots⟩ K
            | false => opsK C call ops (q - 1) lt.tail rest ⟨put (st.env.set d (.one (.bool true))) o.dst (.tup []), st.heap, st.roots⟩ K
          | false => match want with
            | true => opsK C call ops (q - 1) lt.tail rest ⟨put (st.env.set d (.one (.bool false))) o.dst (.tup []), st.heap, st.roots⟩ K
            | false => doK C call (0 < q) o (st.env.set d (.one (.bool false))) st.heap fun v H => opsK C call ops (q - 1) lt.tail rest ⟨put (st.env.set d (.one (.bool false))) o.dst v, H, st.roots⟩ K
        | .tup [] => opsK C call ops (q - 1) lt.tail rest ⟨put st.env o.dst (.tup []), st.heap, st.roots⟩ K
        | _ => none
def edges (o : Oper) : List Nat := (o.after.toList.filter fun e => Region.binds .any e).map (·.on)
def mask (acc : List Nat) : List Nat → Nat
  | [] => 0
  | j :: r => (2 ^ j ||| acc.getD j 0) ||| mask acc r
/-- What comes ahead of each operation, as bits. -/
def clos : List Oper → List Nat → List Nat
  | [], acc => acc
  | o :: r, acc => clos r (acc ++ [mask acc (edges o)])
def tailAt (cl : List Nat) : Nat → Nat
  | 0 => 0
  | i + 1 => if cl.getD i 0 == 2 ^ i - 1 then tailAt cl i else i + 1
def quietOk (ops : Array Oper) (cl : List Nat) (q : Nat) (oi : Oper × Nat) : Bool :=
  (ops.toList.take q).zipIdx.all fun oj => oj.2 == oi.2 || match oj.1.dst with
    | none => true
    | some t => oi.1.dst != some t && (!(oi.1.looksAt ops).contains t || ((cl.getD oi.2 0).testBit oj.2 || (cl.getD oj.2 0).testBit oi.2))
/-- Does an operation change what is there? -/
def isEff (o : Oper) : Bool := match o.op with
  | .store .. | .mapUpdate .. | .insert .. | .range .. | .next .. => true
  | .call { callee := .builtin .append, .. } => true
  | _ => false
def firstEff : List Oper → Nat
  | [] => 0
  | o :: r => match isEff o with | true => 0 | false => firstEff r + 1
/-- Which of the first q may come behind one of the rest. -/
def lates (cl : List Nat) (n q : Nat) : List Bool := (List.range q).map fun i => (List.range n).any fun j => decide (q ≤ j) && !(cl.getD j 0).testBit i
def lateOk (ops : Array Oper) (cl : List Nat) (q : Nat) (oj : Oper × Nat) : Bool :=
  oj.1.guard.isNone && match oj.1.dst with
    | none => false
    | some t => !(oj.1.looksAt ops).contains t && ops.toList.zipIdx.all fun oi => oi.2 == oj.2 || (match decide (oi.2 < q) with
      | true => (match oi.1.dst with | none => true | some u => !(oj.1.looksAt ops).contains u || (cl.getD oj.2 0).testBit oi.2)
      | false => oi.1.dst != some t && ((!(oi.1.looksAt ops).contains t || (cl.getD oi.2 0).testBit oj.2) && (match oi.1.dst with | none => true | some u => !(oj.1.looksAt ops).contains u)))
/-- Of a region that draws its order: how many operations, from the first on, may come in any order, and which of them behind the rest, too; none: the region may not be. -/
def drawAt (ops : Array Oper) (len : Nat) : Option (Nat × List Bool) :=
  let cl := clos ops.toList []
  let q := min (tailAt cl ops.size) (firstEff ops.toList)
  let lt := lates cl ops.size q
  if ops.toList.zipIdx.all (fun oi => (edges oi.1).all (· < oi.2) && ((match oi.1.dst with | none => true | some t => t < len) && (oi.2 < q || (List.range oi.2).all fun j => (cl.getD oi.2 0).testBit j || lt.getD j false))) && ((ops.toList.take q).zipIdx.all (quietOk ops cl q) && (ops.toList.take q).zipIdx.all fun oj => !lt.getD oj.2 false || lateOk ops cl q oj) then some (q, lt) else none

/-! The operations in another order, numbered anew: those ahead that change nothing. -/
def renE (pos : List Nat) (n : Nat) (e : Edge) : Edge := { e with on := pos.getD e.on n }
def renO (pos : List Nat) (n : Nat) (o : Oper) : Oper := { o with after := o.after.map (renE pos n), guard := o.guard.map fun p => (pos.getD p.1 n, p.2) }
def posOf (ord : List Nat) : List Nat := (List.range ord.length).map fun i => ord.idxOf i
def reord (ord : List Nat) (ops : Array Oper) : Array Oper := (ord.filterMap fun i => (ops[i]?).map (renO (posOf ord) ops.size)).toArray
def depE : List Oper → List Bool → List Bool
  | [], acc => acc
  | o :: r, acc => depE r (acc ++ [isEff o || (edges o).any fun j => acc.getD j false])
def ordOf (ops : Array Oper) : List Nat :=
  let d := depE ops.toList []
  (List.range ops.size).filter (fun i => !d.getD i false) ++ (List.range ops.size).filter (fun i => d.getD i false)
/-- A region as the machine runs it. -/
def drawn (draw : Bool) (ops : Array Oper) (len : Nat) : Option (Array Oper × Nat × List Bool) := match draw with
  | false => some (ops, 0, [])
  | true => match drawAt ops len with
    | some p => some (ops, p)
    | none => (drawAt (reord (ordOf ops) ops) len).map fun p => (reord (ordOf ops) ops, p)

/-! ### States, told anew -/
def norm (live : List Nat) (st : St) : Option St :=
  let ord := reach st.heap (st.heap.length * 8 + 64) (roots st.env live ++ st.roots.flatMap hsC) []
  if ord.Nodup then some ⟨keepFrom live ord 0 st.env, ord.map fun h => renS ord (slotAt st.heap h), st.roots.map (ren1 ord)⟩ else none

def dropH (h : Nat) (v : AV) : AV := if (hsA v).contains h then .undef else v
def noRef (h : Nat) (s : Slot) : Bool := match s with | .box _ cs => !(cs.flatMap hsC).contains h | _ => true
/-- A part of a row becomes a row of its own: nothing else leads there any more. -/
def reown (t : Nat) (st : St) : Option St :=
  match envAt st.env t with
  | .one (.sub h o l) => match slotAt st.heap h with
    | .row true e T xs => match !T.isMp && (st.heap.all (noRef h) && !(st.roots.flatMap hsC).contains h) with
      | true => some ⟨(st.env.map (dropH h)).set t (.one (.ref h)), st.heap.set h (.row true e T ((xs.drop o).take l)), st.roots⟩
      | false => none
    | _ => none
  | .one (.ref h) => some st
  | _ => none
/-- A slice in a variable stays as it is from now on. -/
def frzAt (z : Nat × Nat) (st : St) : Option St := if z.2 = 999 then reown z.1 st else
  match envAt st.env z.1 with
  | .one (.ptr h _ _) => match slotAt st.heap h with
    | .box t cs => match cs[z.2]? with
      | some c => (frz1 st.heap c).bind fun p => match slotAt p.2 h with
        | .box .. => some ⟨st.env, p.2.set h (.box t (cs.set z.2 p.1)), st.roots⟩
        | _ => none
      | none => none
    | _ => none
  | .one c => (frz1 st.heap c).map fun p => ⟨st.env.set z.1 (.one p.1), p.2, st.roots⟩
  | .agg cs => match cs[z.2]? with
    | some c => (frz1 st.heap c).map fun p => ⟨st.env.set z.1 (.agg (cs.set z.2 p.1)), p.2, st.roots⟩
    | none => none
  | _ => none
def frzAll : List (Nat × Nat) → St → Option St
  | [], st => some st
  | z :: r, st => match frzAt z st with | some s => frzAll r s | none => none
def prep (z : List (Nat × Nat)) (live : List Nat) (st : St) : Option St := match frzAll z st with | some s => norm live s | none => none
section
variable (C : Ctx) (fid : FuncId) (call : CallK R) (k : Nat)
def loopK (body : St → (Ex → St → Option R) → Option R) (l : LH) (K : Ex → St → Option R) : Nat → St → Option R
  | 0, _ => none
  | m + 1, st => body st fun e st' => match e with
    | .normal => match prep l.zhead l.head st' with | some s => loopK body l K m s | none => none
    | .exit id => match prep l.zexit l.exit st' with | some s => K (.exit id) s | none => none
    | .ret => match prep l.zret l.ret st' with | some s => K .ret s | none => none
noncomputable def aCode : Code → Nat → St → (Ex → St → Option R) → Option R
  | .skip, _, st, K => K .normal st
  | .region _ ops draw, _, st, K => match drawn draw ops st.env.length with
    | some (ops', q, lt) => opsK C call ops' q lt ops'.toList st (K .normal)
    | none => none
  | .seq a b, id, st, K => aCode a id st fun e st' => match e with | .normal => aCode b id st' K | e => K e st'
  | .cond c a b, id, st, K => match c with
    | .tmp d => match envAt st.env d with
      | .one (.bool t) => match t with
        | true => aCode a id ⟨st.env.set d (.one (.bool true)), st.heap, st.roots⟩ K
        | false => aCode b id ⟨st.env.set d (.one (.bool false)), st.heap, st.roots⟩ K
      | _ => none
    | .const (.bool t) => match t with
      | true => aCode a id st K
      | false => aCode b id st K
    | _ => none
  | .block id c, _, st, K => aCode c id st fun e st' => match e with | .exit j => if j = id then K .normal st' else K (.exit j) st' | e => K e st'
  | .loop c, id, st, K => match prep (C.hint fid id).zhead (C.hint fid id).head st with
    | some s => loopK (fun st K => aCode c id st K) (C.hint fid id) K k s
    | none => none
  | .exit id, _, st, K => K (.exit id) st
  | .ret, _, st, K => K .ret st
  | _, _, _, _ => none
/-- The same, its loops told otherwise. -/
noncomputable def aCodeH (hook : Nat → St → (Ex → St → Option R) → Option R) : Code → Nat → St → (Ex → St → Option R) → Option R
  | .skip, _, st, K => K .normal st
  | .region _ ops draw, _, st, K => match drawn draw ops st.env.length with
    | some (ops', q, lt) => opsK C call ops' q lt ops'.toList st (K .normal)
    | none => none
  | .seq a b, id, st, K => aCodeH hook a id st fun e st' => match e with | .normal => aCodeH hook b id st' K | e => K e st'
  | .cond c a b, id, st, K => match c with
    | .tmp d => match envAt st.env d with
      | .one (.bool t) => match t with
        | true => aCodeH hook a id ⟨st.env.set d (.one (.bool true)), st.heap, st.roots⟩ K
        | false => aCodeH hook b id ⟨st.env.set d (.one (.bool false)), st.heap, st.roots⟩ K
      | _ => none
    | .const (.bool t) => match t with
      | true => aCodeH hook a id st K
      | false => aCodeH hook b id st K
    | _ => none
  | .block id c, _, st, K => aCodeH hook c id st fun e st' => match e with | .exit j => if j = id then K .normal st' else K (.exit j) st' | e => K e st'
  | .loop _, id, st, K => hook id st K
  | .exit id, _, st, K => K (.exit id) st
  | .ret, _, st, K => K .ret st
  | _, _, _, _ => none
end
/-! ### What a function hands back -/
def exp1 (H : Heap) (used : List Nat) : CV → Option (CV × List Nat)
  | .ref h => if used.contains h then none else match slotAt H h with
    | .row true e t xs => some (.own e t xs, h :: used)
    | .row false _ t xs => some (.vsl t xs, used)
    | _ => none
  | .sub h o l => match slotAt H h with
    | .row false _ t xs => some (.vsl t ((xs.drop o).take l), used)
    | _ => none
  | .nils | .own .. | .ptr .. | .undef => none
  | .fn _ _ _ => none
  | c => some (c, used)
def expL (H : Heap) (used : List Nat) : List CV → Option (List CV × List Nat)
  | [] => some ([], used)
  | c :: r => (exp1 H used c).bind fun p => (expL H p.2 r).map fun q => (p.1 :: q.1, q.2)
def expA (H : Heap) (used : List Nat) : AV → Option ((Bool × List CV) × List Nat)
  | .one c => (exp1 H used c).map fun p => ((false, [p.1]), p.2)
  | .agg cs => (expL H used cs).map fun p => ((true, p.1), p.2)
  | _ => none
def expT (H : Heap) (used : List Nat) : List AV → Option (List (Bool × List CV))
  | [] => some []
  | v :: r => (expA H used v).bind fun p => (expT H p.2 r).map fun q => p.1 :: q
def resV (C : Ctx) (st : St) : ResultVar → Option AV
  | .tmp t => match envAt st.env t with | .undef => none | v => some v
  | .cell a t => (C.ty t).bind fun ty => (cell1 (envAt st.env a)).bind fun c => (readP st.heap ty.size c).bind fun cs => mkAV ty.isAgg cs
def subs : CV → List Nat
  | .sub h _ _ => [h] | _ => []
def subsA : AV → List Nat
  | .one c => subs c | .agg cs => cs.flatMap subs | _ => []
/-- What stands in what was lent. -/
def rootV (H : Heap) : CV → Option AV
  | .ptr h i off => match slotAt H h with | .box t cs => if i = 0 ∧ off = 0 then some (.agg cs) else none | _ => none
  | .ref h => match slotAt H h with | .row true .. => some (.one (.ref h)) | _ => none
  | _ => none
/-- A function that is handed back: what it holds stays as it is. -/
def fnRes (st : St) (vs : List AV) : Option CV := match st.roots with
  | [] => match vs with | [.one (.fn f a b)] => some (.fn f a b) | _ => none
  | _ => none
def resK (C : Ctx) (fid : FuncId) (fn : Func) (st : St) : Option AV :=
  (fn.results.toList.mapM (resV C st)).bind fun vs => match fnRes st vs with
  | some c => (pureC st.heap c).map .one
  | none => (freeze st.heap (vs.flatMap (if C.shares fid then hsA else subsA))).bind fun H => match st.roots with
    | [] => (expT H [] vs).bind fun us => match us with
      | [u] => mkAV u.1 u.2
      | us => some (.tup us)
    | _ :: _ => (mapA (rootV H) st.roots).bind fun rs => (freeze H (rs.flatMap subsA)).bind fun H' => (expT H' [] (rs ++ vs)).map .tup
noncomputable def aFun (C : Ctx) (fid : FuncId) (fn : Func) (call : CallK R) (k : Nat) (args : Pack) (K : AV → Option R) : Option R :=
  match fn.body with
  | none => none
  | some c => aCode C fid call k c 0 ⟨args.vs ++ List.replicate (fn.ntmps - args.vs.length) .undef, args.heap, args.roots⟩ fun e st => match e with
    | .exit _ => none
    | _ => match resK C fid fn st with | some r => K r | none => none
end
/-- Functions that are told otherwise than by their text. -/
abbrev Prims := FuncId → Option (Pack → Option AV)
def Ctx.on (C : Ctx) : Ctx := { C with nxt := true }
noncomputable def aCallK (P : Program) (C : Ctx) (pr : Prims) : Nat → {R : Type} → FuncId → Pack → (AV → Option R) → Option R
  | 0, _, _, _, _ => none
  | k + 1, _, f, args, K => match pr f with
    | some g => match g args with | some r => K r | none => none
    | none => match P.funcs[f]? with
      | none => none
      | some fn => match C.nd f with
        | none => aFun C f fn (fun g vs K => aCallK P C pr k g vs K) k args K
        | some nf => match aFun C.on f fn (fun g vs (K : AV → Option AV) => aCallK P C pr k g vs K) k args some with
          | some r => match nf r with
            | some r' => K r'
            | none => none
          | none => none
end Go.Proofs.Ytanpdkllnmeenaa.Am

/- The types, and what is told of loops. -/
import Derived.Test.YtanpdkllnmeenaaProg
import Derived.Test.YtanpdkllnmeenaaAmc
set_option linter.unusedVariables false
set_option maxRecDepth 100000
namespace Go.Proofs.Ytanpdkllnmeenaa.M
open Go Go.RowKit Go.Proofs Go.Proofs.Ytanpdkllnmeenaa.Am
abbrev tPart : Ty := (.pair (.int .u64) (.int .i64))
abbrev tProof : Ty := (.pair (.int .u64) (.pair (.int .u64) (.sl tPart)))
noncomputable def tys : List (Nat × Ty) := [(2, (.int .i64)), (3, (.int .i64)), (4, .bool), (5, (.int .u8)), (9, .str), (22, (.sl tProof)), (23, (.int .u64)), (28, (.sl tPart)), (29, (.int .i64)), (37, tPart), (42, tProof), (51, (.sl (.pair .unit (.pair (.int .u64) .bool)))), (55, (.sl (.pair .unit (.pair (.int .u64) tProof)))), (56, (.sl (.int .u64))), (67, (.int .u64)), (97, .opq)]
noncomputable def flds : List (Nat × List (Nat × Fld)) := [(37, [(0, ⟨0, 1, false⟩), (1, ⟨1, 1, false⟩)]), (42, [(0, ⟨0, 1, false⟩), (1, ⟨1, 1, false⟩), (2, ⟨2, 1, false⟩)])]
noncomputable def el : Ty → TypeId := fun t => if t = (.int .u64) then 23 else if t = tPart then 37 else if t = tProof then 42 else  0
noncomputable def hints : List (Nat × List (Nat × LH)) := [(4, [(0, ⟨[0, 5, 9], [0], [4], [], [], []⟩), (2, ⟨[0, 5, 9, 10], [0, 5, 9], [4], [], [], []⟩)]), (5, [(0, ⟨[0, 3, 5], [0, 3], [2], [], [], []⟩), (2, ⟨[0, 3, 5, 8, 9], [0, 3, 5, 8], [2], [], [], []⟩), (4, ⟨[0, 3, 5, 8, 9, 10], [0, 3, 5, 8, 9], [2], [], [], []⟩)]), (6, [(0, ⟨[0, 1, 5], [0, 1], [4], [], [], []⟩), (2, ⟨[0, 6, 7, 8, 9], [0, 6, 7, 8], [4], [], [], []⟩), (4, ⟨[0, 6, 7, 8, 9, 10], [0, 6, 7, 8, 9], [4], [], [], []⟩)]), (7, [(0, ⟨[0, 3, 5, 6, 7], [6], [2], [], [], []⟩)]), (8, [(0, ⟨[0, 1, 5], [], [4], [], [], []⟩)]), (10, [(0, ⟨[0, 3], [], [2], [], [], []⟩)]), (11, [(0, ⟨[0, 3], [0], [2], [], [], []⟩)]), (12, [(0, ⟨[0, 3, 8, 9, 10], [0], [2], [], [], []⟩)]), (16, [(0, ⟨[0, 4, 5], [0, 4], [2, 3], [], [], []⟩), (2, ⟨[0, 4, 5, 6], [0, 4, 5, 6], [2, 3], [], [], []⟩)]), (17, [(0, ⟨[0, 4, 5], [0, 4], [2, 3], [], [], []⟩), (2, ⟨[0, 4, 5, 6], [0, 4, 5, 6], [2, 3], [], [], []⟩)]), (18, [(0, ⟨[0, 1, 5], [], [4], [], [], []⟩)]), (20, [(0, ⟨[0, 3], [], [2], [], [], []⟩)]), (21, [(0, ⟨[4, 5], [4], [2, 3], [(5, 999)], [], []⟩), (2, ⟨[4, 5, 66, 67, 68], [4, 5], [2, 3], [], [], []⟩), (4, ⟨[15, 79], [15], [2, 3], [], [], []⟩)]), (22, [(0, ⟨[0, 1, 5], [], [4], [], [], []⟩), (2, ⟨[0, 1, 5, 6, 7], [0, 1, 5, 6], [4], [], [], []⟩)]), (25, [(0, ⟨[0, 1, 2, 8], [8], [6, 7], [], [], []⟩)]), (26, [(0, ⟨[0, 1], [0], [4], [], [], []⟩)]), (27, [(0, ⟨[0, 1, 5, 6, 7], [0, 1, 5, 6], [4], [], [], []⟩), (2, ⟨[0, 1, 5, 6, 7, 8, 9], [0, 1, 5, 6, 7], [4], [], [], []⟩), (4, ⟨[0, 1, 5, 10], [], [4], [], [], []⟩)]), (31, [(0, ⟨[0, 1, 5], [1], [4], [], [], []⟩)]), (32, [(0, ⟨[0, 1, 4, 6, 12, 13, 14], [0, 1, 4, 6], [4, 5], [], [], []⟩), (2, ⟨[0, 1, 4, 6, 9], [4], [4, 5], [], [], [(4, 2)]⟩)]), (39, [(0, ⟨[0, 7, 8, 9], [0], [4], [], [], []⟩)]), (40, [(0, ⟨[0, 6, 7, 8, 9], [0, 6, 8], [4, 5], [], [], []⟩)]), (41, [(0, ⟨[1, 3], [1], [2], [], [], []⟩)]), (45, [(0, ⟨[0, 1, 7, 8], [], [4], [], [], []⟩)]), (53, [(0, ⟨[1, 7, 8, 9], [1], [4], [], [], []⟩), (2, ⟨[1, 6, 7, 8, 9, 27, 28], [1, 7, 8, 9], [4], [], [], []⟩)]), (54, [(0, ⟨[0, 1, 7, 8], [], [4], [], [], []⟩)]), (66, [(0, ⟨[2, 8, 9, 10, 11, 13, 14, 15, 16], [2, 8, 9, 10, 11, 13, 14, 15], [6, 7], [], [], []⟩), (2, ⟨[2, 8, 9, 10, 14, 15, 16, 17, 18], [2, 8, 14, 15, 17, 18], [6, 7], [], [], []⟩)])]
noncomputable def nds : List (Nat × VS) := [(21, .tup [(false, [.own 42 tProof]), (false, [.int .i64])])]
noncomputable def eqs : List (Nat × List Ty) := [(37, [(.int .u64), (.int .i64)])]
noncomputable def arrs : List (Nat × Nat × Ty) := [(45, 3000, .bool)]
noncomputable def Cx : Ctx where
  arr := Am.look arrs
  nils := fun f => [].contains f
  nd := fun f => (Am.look nds f).map fun (s : VS) (r : AV) => (s.dec r).map s.enc
  eqs := Am.look eqs
  ty := Am.look tys
  el := el
  fld := fun s f => (Am.look flds s).bind fun l => Am.look l f
  hint := fun f i => ((Am.look hints f).bind fun l => Am.look l i).getD default
  shares := fun f => [32].contains f
  lends := fun f => (Am.look [(33, [0]), (46, [0]), (55, [0]), (56, [0]), (57, [0]), (59, [0]), (60, [0]), (61, [0]), (62, [0]), (67, [0]), (69, [0]), (70, [2]), (71, [4]), (73, [3])] f).getD []
  lendc := fun f => [].contains f
  pty := fun f i => ((Am.look [] f).bind fun l => Am.look l i)
theorem cxOk : CtxOk Try.prog Cx := ctx_ok (tys := tys) (flds := flds) rfl rfl (by kernel_rfl) (by kernel_rfl) (by kernel_rfl) (eqs := eqs) rfl (by kernel_rfl) (nds := nds) rfl (arrs := arrs) rfl (by kernel_rfl)
theorem goOk : ∀ (g : FuncId) (fn : Func), Try.prog.funcs[g]? = some fn → (fn.name == "runtime.NumGoroutine") = false := names_ok (fs := Try.prog.funcs.toList) rfl (by kernel_rfl)
noncomputable def pr : Prims := fun g => Am.look [(33, sortF 42 tProof (fun x : tProof.den => x.1) 34)] g
end Go.Proofs.Ytanpdkllnmeenaa.M

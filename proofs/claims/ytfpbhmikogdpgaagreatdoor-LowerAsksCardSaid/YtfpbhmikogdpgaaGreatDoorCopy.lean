/- The copy of a struct of many cells in one step: out of a range of cells, and into the block that was made last. No program in sight. -/
import Derived.Deep.MidRow
import Derived.Deep.WholeRow
import Derived.WalkKit
namespace Go.Proofs.YtfpbhmikogdpgaaGreatDoor
open Go Go.RowKit
variable {P : Program}

theorem wpList_store_new {ops : Array Oper} {rest : List Oper} {op : Oper} {a : Act} {w : World} {Q : Exit → Act → World → Prop} (hgd : op.guard = none) (ty : TypeId) (x y : Operand) (ho : op.op = .store ty x y)
    (W : World) (c cells : Array Value) (hw : w = W.alloc (.cells c ty)) (hx : a.eval x = .pointer (some ⟨W.heap.size, 0, none⟩)) (hy : a.eval y = .agg cells)
    (hi : (P.info? ty).map (·.size) = some cells.size) (hs : c.size = cells.size) (h1 : cells.all (·.oneCell') = true)
    (h : wpList P ops Q rest (a.put op.dst undef) (W.alloc (.cells cells ty))) : wpList P ops Q (op :: rest) a w :=
  wpList_plain hgd fun _ hK => by
    subst hw
    unfold Oper.wp execOp
    simp only [ho, hx, hy, Instr.storeAt, Instr.sureAddr, Sem.run_bind, Sem.run_pure, Result.andThen_ok, run_storeVar_new W ty c cells hi hs h1]
    exact hK _ _ h
end Go.Proofs.YtfpbhmikogdpgaaGreatDoor

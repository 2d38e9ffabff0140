/-
  Equality of entries and pairs, as the model has it.
-/
import Derived.Test.YtdajdembeacefaaR
import Derived.Laws.StructEq
set_option linter.unusedSimpArgs false
namespace Go.Proofs.Ytdajdembeacefaa.M
open Go.Conc
def entEq (a b : Ent) : Bool := a.key.toList == b.key.toList && (a.seq == b.seq && (a.del == b.del && a.val.toList == b.val.toList))
theorem guard37 : P.eqGuardType P.depth 37 = false := by kernel_rfl
theorem held37 : P.stoodInHeld 37 = false := by kernel_rfl
theorem guard50 : P.eqGuardType P.depth 50 = false := by kernel_rfl
theorem held50 : P.stoodInHeld 50 = false := by kernel_rfl
section
variable {L : Addr → Option Value}
theorem runL_eqS (d : Nat) (a b : ByteArray) : runL P L (Op.equalIn (d + 1) 9 (.string a) (.string b)) = some (a.toList == b.toList) := by
  rw [Op.equalIn, runL_bind, runL_underlying, show P.underlying 9 = some .string from rfl]
  simp only [Option.bind_some, runL_pure]
  rw [beq_toListBytes]
theorem runL_eqI (d : Nat) (a b : Int) : runL P L (Op.equalIn (d + 1) 3 (.int .i64 a) (.int .i64 b)) = some (a == b) := by
  rw [Op.equalIn, runL_bind, runL_underlying, show P.underlying 3 = some (.int .i64) from rfl]
  simp only [Option.bind_some, runL_pure, if_true]
theorem runL_eqB (d : Nat) (a b : Bool) : runL P L (Op.equalIn (d + 1) 4 (.bool a) (.bool b)) = some (a == b) := by
  rw [Op.equalIn, runL_bind, runL_underlying, show P.underlying 4 = some .bool from rfl]
  simp only [Option.bind_some, runL_pure]
theorem runL_part {t : TypeId} (h : runL P L (isAgg t) = some false) (cs : Array Value) (o : Nat) (v : Value) (hv : cs[o]? = some v) : runL P L (part t cs o) = some v := by
  unfold part
  rw [runL_bind, h]
  simp [hv, runL_pure]
set_option maxRecDepth 20000 in
theorem runL_eq37 (d : Nat) (a b : Ent) : runL P L (Op.equalIn (d + 2) 37 a.v b.v) = some (entEq a b) := by
  have e1 := runL_eqS (L := L) d a.key b.key
  have e2 := runL_eqI (L := L) d a.seq b.seq
  have e3 := runL_eqB (L := L) d a.del b.del
  have e4 := runL_eqS (L := L) d a.val b.val
  unfold entEq
  generalize (a.key.toList == b.key.toList) = p1 at *
  generalize (a.seq == b.seq) = p2 at *
  generalize (a.del == b.del) = p3 at *
  generalize (a.val.toList == b.val.toList) = p4 at *
  have a1 := runL_part (show runL P L (isAgg 9) = some false from rfl) a.cells 0 (.string a.key) rfl
  have b1 := runL_part (show runL P L (isAgg 9) = some false from rfl) b.cells 0 (.string b.key) rfl
  have a2 := runL_part (show runL P L (isAgg 3) = some false from rfl) a.cells 1 (.int .i64 a.seq) rfl
  have b2 := runL_part (show runL P L (isAgg 3) = some false from rfl) b.cells 1 (.int .i64 b.seq) rfl
  have a3 := runL_part (show runL P L (isAgg 4) = some false from rfl) a.cells 2 (.bool a.del) rfl
  have b3 := runL_part (show runL P L (isAgg 4) = some false from rfl) b.cells 2 (.bool b.del) rfl
  have a4 := runL_part (show runL P L (isAgg 9) = some false from rfl) a.cells 3 (.string a.val) rfl
  have b4 := runL_part (show runL P L (isAgg 9) = some false from rfl) b.cells 3 (.string b.val) rfl
  rw [Ent.v, Ent.v, Op.equalIn, runL_bind, runL_underlying, Try.underlying37]
  simp only [Option.bind_some, runL_bind, program, runL, held37, Bool.false_eq_true, if_false]
  cases p1 <;> cases p2 <;> cases p3 <;> cases p4 <;> simp [runL_bind, a1, b1, a2, b2, a3, b3, a4, b4, e1, e2, e3, e4, runL_pure]
structure Pr where
  key : ByteArray
  val : ByteArray
def Pr.cells (e : Pr) : Array Value := #[.string e.key, .string e.val]
def Pr.v (e : Pr) : Value := .agg e.cells
def prEq (a b : Pr) : Bool := a.key.toList == b.key.toList && a.val.toList == b.val.toList
set_option maxRecDepth 20000 in
theorem runL_eq50 (d : Nat) (a b : Pr) : runL P L (Op.equalIn (d + 2) 50 a.v b.v) = some (prEq a b) := by
  have e1 := runL_eqS (L := L) d a.key b.key
  have e4 := runL_eqS (L := L) d a.val b.val
  unfold prEq
  generalize (a.key.toList == b.key.toList) = p1 at *
  generalize (a.val.toList == b.val.toList) = p4 at *
  have a1 := runL_part (show runL P L (isAgg 9) = some false from rfl) a.cells 0 (.string a.key) rfl
  have b1 := runL_part (show runL P L (isAgg 9) = some false from rfl) b.cells 0 (.string b.key) rfl
  have a4 := runL_part (show runL P L (isAgg 9) = some false from rfl) a.cells 1 (.string a.val) rfl
  have b4 := runL_part (show runL P L (isAgg 9) = some false from rfl) b.cells 1 (.string b.val) rfl
  rw [Pr.v, Pr.v, Op.equalIn, runL_bind, runL_underlying, Try.underlying50]
  simp only [Option.bind_some, runL_bind, program, runL, held50, Bool.false_eq_true, if_false]
  cases p1 <;> cases p4 <;> simp [runL_bind, a1, b1, a4, b4, e1, e4, runL_pure]
theorem XY (x y : Operand) (a b : Ent) : binL L .neq 37 x y a.v b.v = some (.value (.bool (!entEq a b))) := by
  have := runL_eq37 (L := L) 9998 a b
  simp [binL, eqGuard, binOp, runL_bind, runL_pure, program, runL, guard37, Op.equal, Op.maxDepth, Ent.v]
  simp [Ent.v] at this
  rw [runL_map, this]; rfl
theorem XZ (x y : Operand) (a b : Pr) : binL L .neq 50 x y a.v b.v = some (.value (.bool (!prEq a b))) := by
  have := runL_eq50 (L := L) 9998 a b
  simp [binL, eqGuard, binOp, runL_bind, runL_pure, program, runL, guard50, Op.equal, Op.maxDepth, Pr.v]
  simp [Pr.v] at this
  rw [runL_map, this]; rfl
end
end Go.Proofs.Ytdajdembeacefaa.M

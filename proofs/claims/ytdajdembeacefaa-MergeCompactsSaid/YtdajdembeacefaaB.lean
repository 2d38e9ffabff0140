/-
  THE CALCULUS, 2: what each kind of operation that only reads yields in this program ('x_..': rules for 'runL' over 'execOp'), as rules of rewriting. No condition.
-/
import Derived.Test.YtdajdembeacefaaProg
import Derived.Test.YtdajdembeacefaaA
import Derived.KernelRfl
set_option linter.unusedSimpArgs false
set_option linter.unusedVariables false
namespace Go.Proofs.Ytdajdembeacefaa.M
open Go.Conc

noncomputable abbrev P := Try.prog

section
variable {L : Addr → Option Value} {ρ : Operand → Value} {d : Option Nat} {t : TypeId} {p : String} {e : Array Edge} {g : Option (Nat × Bool)}

theorem runL_map {α β : Type} (P : Program) (L : Addr → Option Value) (s : Sem α) (f : α → β) : runL P L (f <$> s) = (runL P L s).map f := by
  show runL P L (s >>= fun a => Pure.pure (f a)) = _
  rw [runL_bind]; cases runL P L s <;> rfl
theorem runL_underlying (P : Program) (t : TypeId) : runL P L (underlying t) = P.underlying t := by
  unfold underlying; rw [runL_bind]; simp only [program, runL, Option.bind_some]; cases P.underlying t <;> rfl
theorem runL_typeInfo (P : Program) (t : TypeId) : runL P L (typeInfo t) = P.info? t := by
  unfold typeInfo; rw [runL_bind]; simp only [program, runL, Option.bind_some]; cases P.info? t <;> rfl
theorem runL_sizeOf (P : Program) (t : TypeId) : runL P L (sizeOf t) = (P.info? t).map (·.size) := by
  unfold sizeOf; rw [runL_bind, runL_typeInfo]; cases P.info? t <;> rfl
theorem runL_load (P : Program) (a : Addr) : runL P L (load a) = L a := by
  unfold load; simp only [runL]; cases L a <;> rfl

theorem XF (x : Operand) : runL P L (execOp ρ ⟨d, .move x, t, p, e, g⟩) = some (.value (ρ x)) := rfl
theorem XG (x : Operand) : runL P L (execOp ρ ⟨d, .assign x, t, p, e, g⟩) = some (.value (ρ x)) := rfl

def pickL : Value → Value → Value → Option Next
  | .bool true, a, _ => some (.value a)
  | .bool false, _, b => some (.value b)
  | _, _, _ => none
theorem XH (c a b : Operand) : runL P L (execOp ρ ⟨d, .pick c a b, t, p, e, g⟩) = pickL (ρ c) (ρ a) (ρ b) := by
  simp only [execOp]
  cases h : ρ c with
  | bool z => cases z <;> rfl
  | _ => rfl
theorem X2 (a b : Value) : pickL (.bool true) a b = some (.value a) := rfl
theorem X3 (a b : Value) : pickL (.bool false) a b = some (.value b) := rfl

/-- A load of a variable of one cell. -/
def loadL (L : Addr → Option Value) : Value → Option Next
  | .pointer (some a) => (L a).map .value
  | _ => none
theorem XL (L : Addr → Option Value) (a : Addr) : loadL L (.pointer (some a)) = (L a).map .value := rfl
theorem x_load_of {u : TypeId} (h : runL P L (isAgg u) = some false) (x : Operand) : runL P L (execOp ρ ⟨d, .load u x, t, p, e, g⟩) = loadL L (ρ x) := by
  simp only [execOp, Instr.loadAt]
  rw [runL_bind, runL_bind]
  cases hx : ρ x with
  | pointer a =>
    cases a with
    | none => rfl
    | some a =>
      simp only [Instr.sureAddr, runL_pure, Option.bind_some, loadVar, loadL]
      rw [runL_bind, h]
      simp only [Option.bind_some, Bool.false_eq_true, if_false, runL_load]
      cases L a <;> rfl
  | _ => rfl
theorem Xj (x : Operand) : runL P L (execOp ρ ⟨d, .load 3 x, t, p, e, g⟩) = loadL L (ρ x) := x_load_of rfl x
theorem Xk (x : Operand) : runL P L (execOp ρ ⟨d, .load 4 x, t, p, e, g⟩) = loadL L (ρ x) := x_load_of rfl x
theorem Xl (x : Operand) : runL P L (execOp ρ ⟨d, .load 9 x, t, p, e, g⟩) = loadL L (ρ x) := x_load_of rfl x
theorem Xm (x : Operand) : runL P L (execOp ρ ⟨d, .load 22 x, t, p, e, g⟩) = loadL L (ρ x) := x_load_of rfl x
theorem Xn (x : Operand) : runL P L (execOp ρ ⟨d, .load 25 x, t, p, e, g⟩) = loadL L (ρ x) := x_load_of rfl x
theorem Xo (x : Operand) : runL P L (execOp ρ ⟨d, .load 51 x, t, p, e, g⟩) = loadL L (ρ x) := x_load_of rfl x
theorem Xp (x : Operand) : runL P L (execOp ρ ⟨d, .load 63 x, t, p, e, g⟩) = loadL L (ρ x) := x_load_of rfl x
theorem Xq (x : Operand) : runL P L (execOp ρ ⟨d, .load 64 x, t, p, e, g⟩) = loadL L (ρ x) := x_load_of rfl x
theorem Xr (x : Operand) : runL P L (execOp ρ ⟨d, .load 71 x, t, p, e, g⟩) = loadL L (ρ x) := x_load_of rfl x

/-- A load of a struct of so many cells. -/
noncomputable def loadN (L : Addr → Option Value) (n : Nat) : Value → Option Next
  | .pointer (some a) => (runL P L (loadCells a n)).map fun c => .value (.agg c)
  | _ => none
theorem x_load_agg {u n : Nat} (h : runL P L (isAgg u) = some true) (hs : runL P L (sizeOf u) = some n) (x : Operand) : runL P L (execOp ρ ⟨d, .load u x, t, p, e, g⟩) = loadN L n (ρ x) := by
  simp only [execOp, Instr.loadAt]
  rw [runL_bind, runL_bind]
  cases hx : ρ x with
  | pointer a =>
    cases a with
    | none => rfl
    | some a =>
      simp only [Instr.sureAddr, runL_pure, Option.bind_some, loadVar, loadN]
      rw [runL_bind, h]
      simp only [Option.bind_some, if_true]
      rw [runL_bind, hs]
      simp only [Option.bind_some]
      rw [runL_bind]
      cases runL P L (loadCells a n) <;> rfl
  | _ => rfl
theorem Xs (x : Operand) : runL P L (execOp ρ ⟨d, .load 37 x, t, p, e, g⟩) = loadN L 4 (ρ x) := x_load_agg rfl rfl x
theorem Xt (x : Operand) : runL P L (execOp ρ ⟨d, .load 50 x, t, p, e, g⟩) = loadN L 2 (ρ x) := x_load_agg rfl rfl x
theorem loadN4 {a : Addr} {v0 v1 v2 v3 : Value} (h0 : L (a.add 0) = some v0) (h1 : L (a.add 1) = some v1) (h2 : L (a.add 2) = some v2) (h3 : L (a.add 3) = some v3) :
    loadN L 4 (.pointer (some a)) = some (.value (.agg #[v0, v1, v2, v3])) := by
  simp only [loadN, loadCells, loadCellsFrom, runL_bind, runL_load, h0, h1, h2, h3, Option.bind_some, Nat.zero_add, Nat.reduceAdd, runL_pure, Option.map_some]
  rfl
theorem loadN2 {a : Addr} {v0 v1 : Value} (h0 : L (a.add 0) = some v0) (h1 : L (a.add 1) = some v1) :
    loadN L 2 (.pointer (some a)) = some (.value (.agg #[v0, v1])) := by
  simp only [loadN, loadCells, loadCellsFrom, runL_bind, runL_load, h0, h1, Option.bind_some, Nat.zero_add, runL_pure, Option.map_some]
  rfl

/-- The address of a field. -/
def fieldL (off : Nat) : Value → Option Next
  | .pointer (some a) => some (.value (.pointer (some (a.add off))))
  | _ => none
theorem XK (off : Nat) (a : Addr) : fieldL off (.pointer (some a)) = some (.value (.pointer (some (a.add off)))) := rfl
theorem x_field_of {s i off : Nat} {fs : Array Field} {fl : Field} (hs : P.underlying s = some (.struct fs)) (hf : fs[i]? = some fl) (hz : ∃ n, (P.info? fl.type).map (·.size) = some (n + 1)) (ho : fl.offset = off) (x : Operand) :
    runL P L (execOp ρ ⟨d, .fieldAddr s x i, t, p, e, g⟩) = fieldL off (ρ x) := by
  subst ho
  obtain ⟨n, hn⟩ := hz
  simp only [execOp, Instr.fieldAt]
  rw [runL_bind, runL_bind, runL_underlying, hs]
  simp only [Option.bind_some]
  rw [hf]
  simp only
  rw [runL_bind]
  cases hx : ρ x with
  | pointer a =>
    cases a with
    | none => rfl
    | some a =>
      simp only [Instr.sureAddr, runL_pure, Option.bind_some, fieldPlace, fieldL]
      rw [runL_bind, runL_bind, runL_sizeOf, hn]
      simp only [Option.bind_some, Nat.add_eq_zero_iff, Nat.one_ne_zero, and_false, if_false, runL_pure]
  | _ => rfl
theorem Xa (x : Operand) : runL P L (execOp ρ ⟨d, .fieldAddr 37 x 0, t, p, e, g⟩) = fieldL 0 (ρ x) := x_field_of (off := 0) Try.underlying37 rfl ⟨0, rfl⟩ rfl x
theorem Xb (x : Operand) : runL P L (execOp ρ ⟨d, .fieldAddr 37 x 1, t, p, e, g⟩) = fieldL 1 (ρ x) := x_field_of (off := 1) Try.underlying37 rfl ⟨0, rfl⟩ rfl x
theorem Xc (x : Operand) : runL P L (execOp ρ ⟨d, .fieldAddr 37 x 2, t, p, e, g⟩) = fieldL 2 (ρ x) := x_field_of (off := 2) Try.underlying37 rfl ⟨0, rfl⟩ rfl x
theorem Xd (x : Operand) : runL P L (execOp ρ ⟨d, .fieldAddr 37 x 3, t, p, e, g⟩) = fieldL 3 (ρ x) := x_field_of (off := 3) Try.underlying37 rfl ⟨0, rfl⟩ rfl x
theorem Xe (x : Operand) : runL P L (execOp ρ ⟨d, .fieldAddr 50 x 0, t, p, e, g⟩) = fieldL 0 (ρ x) := x_field_of (off := 0) Try.underlying50 rfl ⟨0, rfl⟩ rfl x
theorem Xf (x : Operand) : runL P L (execOp ρ ⟨d, .fieldAddr 50 x 1, t, p, e, g⟩) = fieldL 1 (ρ x) := x_field_of (off := 1) Try.underlying50 rfl ⟨0, rfl⟩ rfl x
theorem Xg (x : Operand) : runL P L (execOp ρ ⟨d, .fieldAddr 66 x 0, t, p, e, g⟩) = fieldL 0 (ρ x) := x_field_of (off := 0) Try.underlying66 rfl ⟨0, rfl⟩ rfl x
theorem Xh (x : Operand) : runL P L (execOp ρ ⟨d, .fieldAddr 66 x 1, t, p, e, g⟩) = fieldL 1 (ρ x) := x_field_of (off := 1) Try.underlying66 rfl ⟨3, rfl⟩ rfl x
theorem Xi (x : Operand) : runL P L (execOp ρ ⟨d, .fieldAddr 66 x 2, t, p, e, g⟩) = fieldL 5 (ρ x) := x_field_of (off := 5) Try.underlying66 rfl ⟨0, rfl⟩ rfl x
theorem x_f61_1 (x : Operand) : runL P L (execOp ρ ⟨d, .fieldAddr 61 x 1, t, p, e, g⟩) = fieldL 0 (ρ x) := x_field_of (off := 0) Try.underlying61 rfl ⟨0, rfl⟩ rfl x
theorem x_f61_2 (x : Operand) : runL P L (execOp ρ ⟨d, .fieldAddr 61 x 2, t, p, e, g⟩) = fieldL 1 (ρ x) := x_field_of (off := 1) Try.underlying61 rfl ⟨0, rfl⟩ rfl x
theorem x_f58_2 (x : Operand) : runL P L (execOp ρ ⟨d, .fieldAddr 58 x 2, t, p, e, g⟩) = fieldL 0 (ρ x) := x_field_of (off := 0) Try.underlying58 rfl ⟨0, rfl⟩ rfl x

/-- The address of an element of a slice. -/
def idxL (sz : Nat) : Value → Value → Option Next
  | .slice (some a) n _, .int _ i => if 0 ≤ i ∧ i < (n : Int) then some (.value (.pointer (some (a.add (i.toNat * sz))))) else none
  | _, _ => none
theorem idxL_some (sz : Nat) (a : Addr) (n c i : Nat) (k : IntKind) (h : i < n) : idxL sz (.slice (some a) n c) (.int k (i : Int)) = some (.value (.pointer (some (a.add (i * sz))))) := by
  simp only [idxL]; rw [if_pos ⟨by omega, by omega⟩]; rfl
theorem runL_runtimePanic {α : Type} (P : Program) (r : RuntimeError) (h : ∃ x y s c, r = .bounds x y s c) : runL P L (runtimePanic r : Sem α) = none := by
  obtain ⟨x, y, s, c, rfl⟩ := h
  rfl
theorem runL_boundsPanic {α : Type} (P : Program) (k : IntKind) (x y : Int) (c : BoundsCode) : runL P L (boundsPanic k x y c : Sem α) = none := by
  unfold boundsPanic
  dsimp only
  split
  · rw [runL_bind, runL_map]; rfl
  · rw [runL_bind, runL_pure, Option.bind_some]; exact runL_runtimePanic P _ ⟨_, _, _, _, rfl⟩
theorem x_index_of {s el sz : Nat} (hs : P.underlying s = some (.slice el)) (hz : (P.info? el).map (·.size) = some sz) (x y : Operand) :
    runL P L (execOp ρ ⟨d, .indexAddr s x y, t, p, e, g⟩) = idxL sz (ρ x) (ρ y) := by
  simp only [execOp, Instr.indexAt]
  cases hy : ρ y with
  | int k i =>
    simp only [runL_bind, asIntOf, runL_pure, Option.bind_some, runL_underlying, hs]
    cases hx : ρ x with
    | slice a n c =>
      simp only [runL_bind, runL_pure, Option.bind_some, runL_underlying, hs]
      cases a with
      | none => simp only [runL_boundsPanic]; rfl
      | some a =>
        simp only [idxL]
        by_cases hh : 0 ≤ i ∧ i < (n : Int)
        · rw [if_pos hh, if_pos hh]
          simp only [runL_bind, runL_sizeOf, hz, Option.bind_some, runL_pure]
        · rw [if_neg hh, if_neg hh]
          simp only [Bool.and_false, Bool.false_eq_true, if_false, runL_boundsPanic]
          rfl
    | _ => rfl
  | pointer a => rw [runL_bind, runL_bind]; cases a <;> (cases ρ x with | slice a n c => cases a <;> rfl | _ => rfl)
  | _ => rw [runL_bind, runL_bind]; (cases ρ x with | slice a n c => cases a <;> rfl | _ => rfl)
theorem Xu (x y : Operand) : runL P L (execOp ρ ⟨d, .indexAddr 25 x y, t, p, e, g⟩) = idxL 4 (ρ x) (ρ y) := x_index_of (sz := 4) Try.underlying25 rfl x y
theorem Xv (x y : Operand) : runL P L (execOp ρ ⟨d, .indexAddr 22 x y, t, p, e, g⟩) = idxL 1 (ρ x) (ρ y) := x_index_of (sz := 1) Try.underlying22 rfl x y
theorem Xw (x y : Operand) : runL P L (execOp ρ ⟨d, .indexAddr 39 x y, t, p, e, g⟩) = idxL 2 (ρ x) (ρ y) := x_index_of (sz := 2) Try.underlying39 rfl x y
theorem Xx (x y : Operand) : runL P L (execOp ρ ⟨d, .indexAddr 62 x y, t, p, e, g⟩) = idxL 1 (ρ x) (ρ y) := x_index_of (sz := 1) Try.underlying62 rfl x y

def nilL : Value → Option Next
  | .pointer (some a) => some (.value (.pointer (some a)))
  | _ => none
theorem x_nil (x : Operand) (h : (nilL (ρ x)).isSome = true) : runL P L (execOp ρ ⟨d, .nilCheck x, t, p, e, g⟩) = nilL (ρ x) := by
  simp only [execOp]
  cases hx : ρ x with
  | pointer a => cases a <;> rfl
  | _ => rw [hx] at h; cases h
theorem nilL_some (a : Addr) : nilL (.pointer (some a)) = some (.value (.pointer (some a))) := rfl

/-- len of a slice. -/
def lenL : Value → Option Next
  | .slice _ n _ => some (.value (.int .i64 n))
  | _ => none
theorem XM (a : Option Addr) (n c : Nat) : lenL (.slice a n c) = some (.value (.int .i64 n)) := rfl
theorem x_len_of {s el : Nat} (hs : P.underlying s = some (.slice el)) (x : Operand) :
    runL P L (execOp ρ ⟨d, .call { callee := .builtin .len, args := #[x], argTypes := #[s] }, t, p, e, g⟩) = lenL (ρ x) := by
  simp only [execOp, resolve, runL_bind, runL_pure, Option.bind_some, invoke, builtin, Builtin.len_, List.map_toArray, List.map_cons, List.map_nil]
  simp only [List.getElem?_toArray, List.getElem?_cons_zero, runL_bind, runL_underlying, hs, Option.bind_some, goInt, runL_pure]
  cases ρ x <;> rfl
theorem Xy (x : Operand) : runL P L (execOp ρ ⟨d, .call { callee := .builtin .len, args := #[x], argTypes := #[25] }, t, p, e, g⟩) = lenL (ρ x) := x_len_of Try.underlying25 x
theorem Xz (x : Operand) : runL P L (execOp ρ ⟨d, .call { callee := .builtin .len, args := #[x], argTypes := #[22] }, t, p, e, g⟩) = lenL (ρ x) := x_len_of Try.underlying22 x
theorem XA (x : Operand) : runL P L (execOp ρ ⟨d, .call { callee := .builtin .len, args := #[x], argTypes := #[39] }, t, p, e, g⟩) = lenL (ρ x) := x_len_of Try.underlying39 x
theorem XB (x : Operand) : runL P L (execOp ρ ⟨d, .call { callee := .builtin .len, args := #[x], argTypes := #[62] }, t, p, e, g⟩) = lenL (ρ x) := x_len_of Try.underlying62 x

def extL (i : Nat) : Value → Option Next
  | .tuple vs => (vs[i]?).map .value
  | _ => none
theorem XD (x : Operand) (i : Nat) : runL P L (execOp ρ ⟨d, .extract x i, t, p, e, g⟩) = extL i (ρ x) := by
  simp only [execOp, Instr.extract, extL]
  cases ρ x with
  | tuple vs => simp only; cases vs[i]? <;> rfl
  | _ => rfl

/-! binary operations -/
noncomputable def binL (L : Addr → Option Value) (op : BinOp) (u : TypeId) (x y : Operand) (a b : Value) : Option Next := (runL P L (do eqGuard op u x y a b; binOp op u a b)).map .value
theorem XI (op : BinOp) (u v : TypeId) (x y : Operand) : runL P L (execOp ρ ⟨d, .binOp op u x y v, t, p, e, g⟩) = binL L op u x y (ρ x) (ρ y) := by
  simp only [execOp, binL]
  rw [runL_bind]; cases runL P L (do eqGuard op u x y (ρ x) (ρ y); binOp op u (ρ x) (ρ y)) <;> rfl
theorem XR (u : TypeId) (x y : Operand) (k : IntKind) (a b : Int) : binL L .lss u x y (.int k a) (.int k b) = some (.value (.bool (decide (a < b)))) := by simp [binL, eqGuard, binOp, Op.intCmp, runL_bind, runL_pure]
theorem XT (u : TypeId) (x y : Operand) (k : IntKind) (a b : Int) : binL L .leq u x y (.int k a) (.int k b) = some (.value (.bool (decide (a ≤ b)))) := by simp [binL, eqGuard, binOp, Op.intCmp, runL_bind, runL_pure]
theorem XU (u : TypeId) (x y : Operand) (k : IntKind) (a b : Int) : binL L .gtr u x y (.int k a) (.int k b) = some (.value (.bool (decide (b < a)))) := by simp [binL, eqGuard, binOp, Op.intCmp, runL_bind, runL_pure]
theorem XV (u : TypeId) (x y : Operand) (k : IntKind) (a b : Int) : binL L .geq u x y (.int k a) (.int k b) = some (.value (.bool (decide (b ≤ a)))) := by simp [binL, eqGuard, binOp, Op.intCmp, runL_bind, runL_pure]
theorem XW (u : TypeId) (x y : Operand) (k : IntKind) (a b : Int) : binL L .eql u x y (.int k a) (.int k b) = some (.value (.bool (a == b))) := by simp [binL, eqGuard, binOp, Op.intCmp, runL_bind, runL_pure]
theorem XX (u : TypeId) (x y : Operand) (k : IntKind) (a b : Int) : binL L .neq u x y (.int k a) (.int k b) = some (.value (.bool (a != b))) := by simp [binL, eqGuard, binOp, Op.intCmp, runL_bind, runL_pure]
theorem XO (u : TypeId) (x y : Operand) (a b : ByteArray) : binL L .lss u x y (.string a) (.string b) = some (.value (.bool (Op.bytesLess a.toList b.toList))) := by simp [binL, eqGuard, binOp, Op.stringOp, runL_bind, runL_pure]
theorem XP (u : TypeId) (x y : Operand) (a b : ByteArray) : binL L .eql u x y (.string a) (.string b) = some (.value (.bool (a.toList == b.toList))) := by simp [binL, eqGuard, binOp, Op.stringOp, runL_bind, runL_pure]
theorem XQ (u : TypeId) (x y : Operand) (a b : ByteArray) : binL L .neq u x y (.string a) (.string b) = some (.value (.bool (!(a.toList == b.toList)))) := by simp [binL, eqGuard, binOp, Op.stringOp, runL_bind, runL_pure]
theorem X0 (u : TypeId) (x y : Operand) (k : IntKind) (a b : Int) : binL L .add u x y (.int k a) (.int k b) = some (.value (.int k (k.wrap (a + b)))) := by simp [binL, eqGuard, binOp, Op.intArith, runL_bind, runL_pure]
theorem X1 (u : TypeId) (x y : Operand) (k : IntKind) (a b : Int) : binL L .sub u x y (.int k a) (.int k b) = some (.value (.int k (k.wrap (a - b)))) := by simp [binL, eqGuard, binOp, Op.intArith, runL_bind, runL_pure]
def notL : Value → Option Next
  | .bool b => some (.value (.bool !b))
  | _ => none
theorem XN (b : Bool) : notL (.bool b) = some (.value (.bool !b)) := rfl
theorem XE (u : TypeId) (x : Operand) : runL P L (execOp ρ ⟨d, .unOp .not u x, t, p, e, g⟩) = notL (ρ x) := by
  simp only [execOp]
  rw [runL_bind]
  cases ρ x <;> rfl
end

/-- The conditions of guarded operations. -/
theorem wanted_none (o : Oper) (y : Nat → Option Bool) (h : o.guard = none) : Region.wanted o y = true := by unfold Region.wanted; rw [h]
theorem wanted_some (o : Oper) (y : Nat → Option Bool) (j : Nat) (v : Bool) (h : o.guard = some (j, v)) : Region.wanted o y = (y j == some v) := by unfold Region.wanted; rw [h]
end Go.Proofs.Ytdajdembeacefaa.M

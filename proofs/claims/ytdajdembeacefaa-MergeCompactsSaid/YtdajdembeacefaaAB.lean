/- Shifts, masks and conversions of the integers that hold a group's word, as the model computes them. No conditions. -/
import Derived.Test.YtdajdembeacefaaAA
import Derived.Conc.WgArith
set_option linter.unusedSimpArgs false
namespace Go.Proofs.Ytdajdembeacefaa.M
open Go.Conc
section
variable {L : Addr → Option Value} {ρ : Operand → Value} {d : Option Nat} {t : TypeId} {p : String} {e : Array Edge} {g : Option (Nat × Bool)}
theorem bin_shl32 (u : TypeId) (x y : Operand) (k kk : IntKind) (a : Int) (hb : 32 ≤ k.bits) : binL L .shl u x y (.int k a) (.int kk 32) = some (.value (.int k (k.wrap (a * 4294967296)))) := by
  have : min 32 k.bits = 32 := by omega
  simp [binL, eqGuard, binOp, Op.shift, runL_bind, runL_pure, this]
theorem bin_shr32 (u : TypeId) (x y : Operand) (k kk : IntKind) (a : Int) (hb : 32 ≤ k.bits) : binL L .shr u x y (.int k a) (.int kk 32) = some (.value (.int k (a.fdiv 4294967296))) := by
  have : min 32 k.bits = 32 := by omega
  simp [binL, eqGuard, binOp, Op.shift, runL_bind, runL_pure, this]
theorem bin_and64 (u : TypeId) (x y : Operand) (a b : Int) : binL L .and u x y (.int .u64 a) (.int .u64 b) = some (.value (.int .u64 (IntKind.u64.wrap (BitVec.ofInt 64 a &&& BitVec.ofInt 64 b).toNat))) := by
  simp [binL, eqGuard, binOp, Op.intBits, runL_bind, runL_pure]
  rfl
def convL (k : IntKind) : Value → Option Next
  | .int _ n => some (.value (.int k (k.wrap n)))
  | _ => none
theorem x_convert_int {s u : TypeId} {k ks : IntKind} (hs : P.underlying s = some (.int ks)) (hu : P.underlying u = some (.int k)) (x : Operand) {kx : IntKind} {n : Int} (hx : ρ x = .int kx n) :
    runL P L (execOp ρ ⟨d, .convert s u x, t, p, e, g⟩) = some (.value (.int k (k.wrap n))) := by
  simp only [execOp, hx]
  rw [runL_bind]
  unfold convert
  rw [runL_bind, runL_underlying, hs]
  simp only [Option.bind_some]
  rw [runL_bind, runL_underlying, hu]
  rfl
end
end Go.Proofs.Ytdajdembeacefaa.M

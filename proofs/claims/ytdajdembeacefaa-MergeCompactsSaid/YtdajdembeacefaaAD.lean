/-
  Facts for the walks through sync.WaitGroup: entries of the model, the group's word as a number, shapes.
-/
import Derived.Test.YtdajdembeacefaaAC
import Derived.Conc.WgArith
import Derived.Laws.LoneSync
set_option linter.unusedSimpArgs false
set_option linter.unusedVariables false
namespace Go.Proofs.Ytdajdembeacefaa.M
open Go.Conc
open Go.ConcR (KK WgAt stA smA rd wr mk)

section
variable {L : Addr → Option Value} {ρ : Operand → Value} {d : Option Nat} {t : TypeId} {p : String} {e : Array Edge} {g : Option (Nat × Bool)}
theorem convL_int (k kx : IntKind) (n : Int) : convL k (.int kx n) = some (.value (.int k (k.wrap n))) := rfl
theorem x_cv_of {s u : TypeId} {k ks : IntKind} (hs : P.underlying s = some (.int ks)) (hu : P.underlying u = some (.int k)) (x : Operand) (h : (convL k (ρ x)).isSome = true) :
    runL P L (execOp ρ ⟨d, .convert s u x, t, p, e, g⟩) = convL k (ρ x) := by
  cases hx : ρ x with
  | int kx n => exact x_convert_int hs hu x hx
  | _ => rw [hx] at h; cases h
theorem x_cv3_56 (x : Operand) (h : (convL .u64 (ρ x)).isSome = true) : runL P L (execOp ρ ⟨d, .convert 3 56 x, t, p, e, g⟩) = convL .u64 (ρ x) := x_cv_of (ks := .i64) rfl rfl x h
theorem x_cv56_21 (x : Operand) (h : (convL .i32 (ρ x)).isSome = true) : runL P L (execOp ρ ⟨d, .convert 56 21 x, t, p, e, g⟩) = convL .i32 (ρ x) := x_cv_of (ks := .u64) rfl rfl x h
theorem x_cv56_59 (x : Operand) (h : (convL .u32 (ρ x)).isSome = true) : runL P L (execOp ρ ⟨d, .convert 56 59 x, t, p, e, g⟩) = convL .u32 (ρ x) := x_cv_of (ks := .u64) rfl rfl x h
theorem x_cv3_21 (x : Operand) (h : (convL .i32 (ρ x)).isSome = true) : runL P L (execOp ρ ⟨d, .convert 3 21 x, t, p, e, g⟩) = convL .i32 (ρ x) := x_cv_of (ks := .i64) rfl rfl x h
theorem bin_shl64 (u : TypeId) (x y : Operand) (kk : IntKind) (a : Int) : binL L .shl u x y (.int .u64 a) (.int kk 32) = some (.value (.int .u64 (IntKind.u64.wrap (a * 4294967296)))) := bin_shl32 u x y .u64 kk a (by decide)
theorem bin_shr64 (u : TypeId) (x y : Operand) (kk : IntKind) (a : Int) : binL L .shr u x y (.int .u64 a) (.int kk 32) = some (.value (.int .u64 (a.fdiv 4294967296))) := bin_shr32 u x y .u64 kk a (by decide)
theorem bin_andB (u : TypeId) (x y : Operand) (a b : Int) : binL L .and u x y (.int .u64 a) (.int .u64 b) = some (.value (.int .u64 (bits .and .u64 a b))) := bin_and64 u x y a b
end

/-! ### the group's word as a number -/
def stN (v wt : Nat) : Int := v * KK + wt
theorem st_fdiv (v wt : Nat) (hwt : wt ≤ 1) : (stN v wt).fdiv 4294967296 = v := by
  unfold stN KK; rw [Int.fdiv_eq_ediv_of_nonneg _ (by decide)]; omega
theorem st_i32 (v : Nat) (hv : v < 2147483648) : IntKind.i32.wrap (v : Int) = v := by rw [IntKind.wrap_i32]; omega
theorem st_u32 (wt : Nat) (hwt : wt ≤ 1) : IntKind.u32.wrap (wt : Int) = wt := by rw [IntKind.wrap_u32]; omega
theorem st_fl (v wt : Nat) (hv : v < 2147483648) (hwt : wt ≤ 1) : bits .and .u64 (stN v wt) 2147483648 = 0 := by
  have := ConcN.st_flag v wt hv hwt
  simpa [stN, KK] using this
theorem st_wt (v wt : Nat) (hv : v < 2147483648) (hwt : wt ≤ 1) : bits .and .u64 (stN v wt) 2147483647 = wt := by
  have := ConcN.st_waiters v wt hv hwt
  simpa [stN, KK] using this
theorem dec0 : decide ((0 : Int) < -1) = false := by decide
theorem bne00 : ((0 : Int) != 0) = false := by decide

theorem nm24 : ((Try.f24).name == "runtime.NumGoroutine") = false := by kernel_rfl
theorem nm26 : ((Try.f26).name == "runtime.NumGoroutine") = false := by kernel_rfl
theorem nm38 : ((Try.f38).name == "runtime.NumGoroutine") = false := by kernel_rfl
theorem nm39 : ((Try.f39).name == "runtime.NumGoroutine") = false := by kernel_rfl
theorem nm40 : ((Try.f40).name == "runtime.NumGoroutine") = false := by kernel_rfl
theorem nm44 : ((Try.f44).name == "runtime.NumGoroutine") = false := by kernel_rfl
theorem nm46 : ((Try.f46).name == "runtime.NumGoroutine") = false := by kernel_rfl
theorem nm47 : ((Try.f47).name == "runtime.NumGoroutine") = false := by kernel_rfl
theorem nm52 : ((Try.f52).name == "runtime.NumGoroutine") = false := by kernel_rfl
theorem nx38 : Extern.findNext Try.f38 = none := by kernel_rfl
theorem nx39 : Extern.findNext Try.f39 = none := by kernel_rfl
theorem nx40 : Extern.findNext Try.f40 = none := by kernel_rfl
theorem ex38 : Extern.find Try.f38 = some (fun _ => do Go.mark .disable; pure Extern.Race.none_) := by kernel_rfl
theorem ex39 : Extern.find Try.f39 = some (fun _ => do Go.mark .enable; pure Extern.Race.none_) := by kernel_rfl
theorem ex40 : Extern.find Try.f40 = some (fun _ => pure (.bool false)) := by kernel_rfl
theorem nm37 : ((Try.f37).name == "runtime.NumGoroutine") = false := by kernel_rfl
theorem nx37 : Extern.findNext Try.f37 = none := by kernel_rfl
theorem ex37 : Extern.find Try.f37 = some (Extern.Race.marked .releaseMerge) := by kernel_rfl
theorem nm45 : ((Try.f45).name == "runtime.NumGoroutine") = false := by kernel_rfl
theorem nx45 : Extern.findNext Try.f45 = none := by kernel_rfl
theorem ex45 : Extern.find Try.f45 = some (Extern.Race.marked .read) := by kernel_rfl
theorem nm50 : ((Try.f50).name == "runtime.NumGoroutine") = false := by kernel_rfl
theorem nx50 : Extern.findNext Try.f50 = none := by kernel_rfl
theorem ex50 : Extern.find Try.f50 = some (Extern.Race.marked .acquire) := by kernel_rfl
theorem nm53 : ((Try.f53).name == "runtime.NumGoroutine") = false := by kernel_rfl
theorem nx53 : Extern.findNext Try.f53 = none := by kernel_rfl
theorem ex53 : Extern.find Try.f53 = some (Extern.Race.marked .write) := by kernel_rfl
theorem nm57 : ((Try.f57).name == "runtime.NumGoroutine") = false := by kernel_rfl
theorem nx57 : Extern.findNext Try.f57 = none := by kernel_rfl
theorem ex57 : Extern.find Try.f57 = some (Extern.Atomic.update (Op.intArith .add) .u64 true) := by kernel_rfl
theorem nm58 : ((Try.f58).name == "runtime.NumGoroutine") = false := by kernel_rfl
theorem nx58 : Extern.findNext Try.f58 = none := by kernel_rfl
theorem ex58 : Extern.find Try.f58 = some (Extern.Atomic.loadT (.int .u64)) := by kernel_rfl
theorem nm59 : ((Try.f59).name == "runtime.NumGoroutine") = false := by kernel_rfl
theorem nx59 : Extern.findNext Try.f59 = none := by kernel_rfl
theorem ex59 : Extern.find Try.f59 = some (Extern.Atomic.storeT) := by kernel_rfl
theorem nm60 : ((Try.f60).name == "runtime.NumGoroutine") = false := by kernel_rfl
theorem nx60 : Extern.findNext Try.f60 = none := by kernel_rfl
theorem ex60 : Extern.find Try.f60 = some (Extern.Atomic.casT (.int .u64)) := by kernel_rfl
theorem nm49 : ((Try.f49).name == "runtime.NumGoroutine") = false := by kernel_rfl
theorem nx49 : Extern.findNext Try.f49 = none := by kernel_rfl
theorem ex49 : Extern.find Try.f49 = some (Extern.Sync.semrelease) := by kernel_rfl
theorem nm54 : ((Try.f54).name == "runtime.NumGoroutine") = false := by kernel_rfl
theorem nx54 : Extern.findNext Try.f54 = none := by kernel_rfl
theorem ex54 : Extern.find Try.f54 = some (Extern.Sync.semacquire) := by kernel_rfl

def ptr (b o : Nat) : Value := .pointer (some ⟨b, o, none⟩)

/-- What is left of a text behind its first statement. -/
def tlC : Code → Code
  | .seq _ b => b
  | c => c
theorem shape_cell {w : World} {b n off : Nat} {e : TypeId} (h : w.shape? b = some (e, n)) (ho : off < n) : ∃ v, w.cell? ⟨b, off, none⟩ = some v := by
  unfold World.shape? at h
  unfold World.cell?
  cases hb : w.heap[b]? with
  | none => rw [hb] at h; cases h
  | some o =>
    rw [hb] at h
    cases o with
    | cells c t fr =>
      simp only [Option.some.injEq, Prod.mk.injEq] at h
      obtain ⟨rfl, rfl⟩ := h
      exact ⟨c[off], by simp [ho]⟩
    | _ => cases h

section
variable {x : Th} {St : Gh → Goroutine → World → Prop} {O : Gh} {w : World} {b : Frame} {n : Nat} {f : Nat → Value} {ds : List Deferred} {k : List Item} {cs : List Frame} {all os : List Oper} {i : Nat} {o : Oper} {d : Nat} {t : TypeId} {p : String} {e : Array Edge}
/-- Here the step is no rule's. -/
theorem t_here (h : ∀ rest, all.toArray[i]? = some o → (∀ W' : Goroutine → Prop, ∀ f' ds', InC W' b n f' ds' all k cs (i + 1) os → W' (G (Fr b n f' ds' (.inRegion all.toArray rest :: k)) cs)) → Tree P x St O (G (Fr b n f ds (.inRegion all.toArray (i :: rest) :: k)) cs) w) :
    InReg P x St O w b n f ds all k cs i (o :: os) := c_here (W := fun g => Tree P x St O g w) h
/-- 'unsafe.Pointer(p)' of a place in a block of synchronisation. -/
theorem t_conv {s u ts : TypeId} {y : Operand} {ad : Addr} {nn : Nat} {el : TypeId} (hk : b.kind ≠ .early) (hs : P.underlying s = some (.pointer ts)) (hu : P.underlying u = some .unsafePointer)
    (hsz : (P.info? ts).map (fun i => decide (i.size = 0)) = some false) (hy : ev n f y = .pointer (some ad)) (hspot : ad.spot = none)
    (hsy : O.tag ad.block = .sync) (hsh : w.shape? ad.block = some (el, nn)) (hoff : ad.off < nn)
    (h : InReg P x St O w b n (upd f d (.pointer (some ad))) ds all k cs (i + 1) os) :
    InReg P x St O w b n f ds all k cs i (⟨some d, .convert s u y, t, p, e, none⟩ :: os) := by
  have hlt : ad.block < w.heap.size := by
    unfold World.shape? at hsh
    rcases Nat.lt_or_ge ad.block w.heap.size with h' | h'
    · exact h'
    · rw [Array.getElem?_eq_none h'] at hsh; cases hsh
  refine t_op hk rfl fun O1 w1 r => ?_
  have hsh1 := (r.shp ad.block hlt hsy).trans hsh
  obtain ⟨v, hc⟩ := shape_cell hsh1 hoff
  have hc' : w1.cell? ad = some v := by obtain ⟨b0, o0, s0⟩ := ad; simp only at hspot; subst hspot; exact hc
  refine ⟨.pointer (some ad), w1, O1, ?_, ?_, fun ee => (h ee).rely r⟩
  · simp only [execOp, hy]
    have := run_convert_to_unsafe (P := P) hs hu hsz hc'
    simp [this]
  · have he : listed P b.fn ⟨mkT n f, ds⟩ ⟨some d, .convert s u y, t, p, e, none⟩ w1 = #[] := by
      unfold listed
      have : (execOp (Act.mk (mkT n f) ds).eval ⟨some d, .convert s u y, t, p, e, none⟩).events P w1 #[] = #[] := by
        rw [eval_mkT]
        simp only [execOp, hy]
        have h1 := run_convert_to_unsafe (P := P) hs hu hsz hc'
        have h2 := events_convert_to_unsafe (P := P) hs hu hsz hc' #[]
        simp [h1, h2, Result.evThen]
      rw [this]; exact seen_none P _
    rw [he]; exact Moves.idle w1
end
theorem mayWake_entry {b : Frame} {a : Act} {ops : Array Oper} {i : Nat} {rest : List Nat} {k : List Item} {cs : List Frame} {o : Oper} {f : FuncId} {fn : Func} {xs : Array Operand} {ats : Array TypeId}
    (ho : ops[i]? = some o) (hop : o.op = .call { callee := .value (.func f), args := xs, argTypes := ats }) (hf : P.funcs[f]? = some fn) (hb : fn.body.isNone = true) : mayWake P (G (b.at a (.inRegion ops (i :: rest) :: k)) cs) = true := by
  have h2 : fn.body = none := by simpa using hb
  have ef : (b.at a (.inRegion ops (i :: rest) :: k)).eval (.func f) = .func (.func f) #[] #[] := rfl
  simp [mayWake, G, Frame.at, ho, hop] at ef ⊢
  simp [ef, hf, h2]
end Go.Proofs.Ytdajdembeacefaa.M

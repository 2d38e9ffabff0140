/-
  THE CALCULUS, 9: what is said to a race detector; deferred calls.
-/
import Derived.Test.YtdajdembeacefaaW
import Derived.Conc.MarkLaws
import Derived.Conc.DeferLaws
import Derived.Conc.WgGenW
import Derived.Conc.SmallLaws
import Derived.Conc.AtomicLaws2
set_option linter.unusedSimpArgs false
set_option linter.unusedVariables false
namespace Go.Proofs.Ytdajdembeacefaa.M
open Go.Conc

def Gh.hear (O : Gh) (d : Nat) : Gh := { O with deaf := d }
theorem Rel.hear {x : Th} {O O1 : Gh} {w w1 : World} (r : Rel x O w O1 w1) (d : Nat) : Rel x (O.hear d) w (O1.hear d) w1 :=
  ⟨r.size, r.tape, r.os, r.output, rfl, r.tags, r.fr, r.block, r.cell0, r.fresh, r.sy, r.shp⟩
theorem Moves.mark {x : Th} (O : Gh) (w : World) {m : Mark} (hm : m = .disable ∨ m = .enable) : Moves x O w (O.hear (deafBehind O.deaf #[⟨.mark m, false, true⟩])) w #[⟨.mark m, false, true⟩] := by
  refine ⟨Nat.le_refl _, rfl, rfl, rfl, rfl, fun _ _ => rfl, fun b h1 h2 => absurd h2 (Nat.not_lt.2 h1), fun _ _ _ => rfl, fun _ _ _ => rfl, fun e he => ?_⟩
  simp at he; subst he
  rcases hm with rfl | rfl
  · exact .inr (.inr (.inr (.inl rfl)))
  · exact .inr (.inr (.inr (.inr (.inl rfl))))

section
variable {x : Th} {St : Gh → Goroutine → World → Prop} {O : Gh} {w : World} {b : Frame} {n : Nat} {f : Nat → Value} {ds : List Deferred} {k : List Item} {cs : List Frame} {all os : List Oper} {i : Nat} {d : Nat} {t : TypeId} {p : String} {e : Array Edge}

/-- Disable, Enable. -/
theorem t_mark0 {fn : FuncId} {F : Func} {args : Array Operand} {ats : Array TypeId} (m : Mark) (hm : m = .disable ∨ m = .enable) (hk : b.kind ≠ .early) (hf : P.funcs[fn]? = some F) (hname : (F.name == "runtime.NumGoroutine") = false)
    (hb : F.body.isNone = true) (hn : Extern.findNext F = none) (he : Extern.find F = some (fun _ => do Go.mark m; pure Extern.Race.none_))
    (h : InReg P x St (O.hear (deafBehind O.deaf #[⟨.mark m, false, true⟩])) w b n (upd f d (.tuple #[])) ds all k cs (i + 1) os) :
    InReg P x St O w b n f ds all k cs i (⟨some d, .call { callee := .value (.func fn), args, argTypes := ats }, t, p, e, none⟩ :: os) := by
  intro ee
  obtain ⟨h1, h2⟩ := drop_get ee
  rw [List.length_cons, List.range'_succ]
  have hT := h h2
  refine .step (Tree P x St) rfl (fun O1 w1 r => ?_) (fun _ _ _ h => h)
  have hst := stepG_mark0 (P := P) (main := x.id == 0) (b := b) (a := ⟨mkT n f, ds⟩) (kk := k) (cs := cs) (w := w1) (rest := List.range' (i + 1) os.length) m (by rcases hm with rfl | rfl <;> simp) h1 rfl hk rfl hf hname hb hn he
  rw [put_mkT] at hst
  refine ⟨_, w1, _, _, hst, Moves.mark O1 w1 hm, ?_⟩
  have := r.hear (deafBehind O.deaf #[⟨.mark m, false, true⟩])
  rw [r.deaf]
  exact hT.rely this

/-- A defer statement of a function named outright. -/
theorem t_defer {fn : FuncId} {args : Array Operand} {ats : Array TypeId} {vals : Array Value} (hk : b.kind ≠ .early) (hv : args.map (ev n f) = vals)
    (h : InReg P x St O w b n f (dcall fn vals :: ds) all k cs (i + 1) os) :
    InReg P x St O w b n f ds all k cs i (⟨none, .defer { callee := .value (.func fn), args, argTypes := ats }, t, p, e, none⟩ :: os) := by
  intro ee
  obtain ⟨h1, h2⟩ := drop_get ee
  rw [List.length_cons, List.range'_succ]
  refine t_ctl rfl (fun w => ?_) (h h2)
  have := stepG_defer (P := P) (main := x.id == 0) (b := b) (a := ⟨mkT n f, ds⟩) (k := k) (cs := cs) (w := w) (rest := List.range' (i + 1) os.length) h1 rfl hk rfl
  rw [eval_mkT, hv] at this
  exact this

/-- On the way out: a deferred Disable or Enable. -/
theorem t_unwind_mark {fn : FuncId} {F : Func} {todo : List Item} (m : Mark) (hm : m = .disable ∨ m = .enable) (hf : P.funcs[fn]? = some F) (hname : (F.name == "runtime.NumGoroutine") = false)
    (hb : F.body.isNone = true) (hn : Extern.findNext F = none) (he : Extern.find F = some (fun _ => do Go.mark m; pure Extern.Race.none_))
    (h : Tree P x St (O.hear (deafBehind O.deaf #[⟨.mark m, false, true⟩])) (G { Fr b n f ds todo with mode := .returning } cs) w) :
    Tree P x St O (G { Fr b n f (dcall fn #[] :: ds) todo with mode := .returning } cs) w := by
  refine .step (Tree P x St) rfl (fun O1 w1 r => ?_) (fun _ _ _ h => h)
  have hst := stepG_unwind_entry (P := P) (main := x.id == 0) (b := b) (a := ⟨mkT n f, dcall fn #[] :: ds⟩) (cs := cs) (w := w1) (todo := todo) (v := .tuple #[]) (w' := w1) rfl hf hname hb hn he (evs := #[⟨.mark m, false, true⟩]) (by simp [Extern.Race.none_]) (by simp) (by
    intro y hy
    simp at hy; subst hy
    exact ⟨rfl, fun g h => by rcases hm with rfl | rfl <;> cases h⟩)
  refine ⟨_, w1, _, _, hst, Moves.mark O1 w1 hm, ?_⟩
  rw [r.deaf]
  exact h.rely (r.hear _)

/-- An entry that yields a value, always the same, and lists nothing. -/
theorem t_entryPure {fn : FuncId} {F : Func} {args : Array Operand} {ats : Array TypeId} (v : Value) (hk : b.kind ≠ .early) (hf : P.funcs[fn]? = some F) (hname : (F.name == "runtime.NumGoroutine") = false)
    (hb : F.body.isNone = true) (hn : Extern.findNext F = none) (he : Extern.find F = some (fun _ => pure v))
    (h : InReg P x St O w b n (upd f d v) ds all k cs (i + 1) os) :
    InReg P x St O w b n f ds all k cs i (⟨some d, .call { callee := .value (.func fn), args, argTypes := ats }, t, p, e, none⟩ :: os) := by
  intro ee
  obtain ⟨h1, h2⟩ := drop_get ee
  rw [List.length_cons, List.range'_succ]
  refine t_ctl rfl (fun w => ?_) (h h2)
  have := stepG_entry_pure (P := P) (main := x.id == 0) (b := b) (a := ⟨mkT n f, ds⟩) (kk := k) (cs := cs) (w := w) (rest := List.range' (i + 1) os.length) v h1 rfl hk rfl hf hname hb hn he
  rw [put_mkT] at this
  exact this
/-- 'Read' and 'Write' of a block of synchronisation, said by main. -/
theorem t_said {fn : FuncId} {F : Func} {args : Array Operand} {ats : Array TypeId} (mk : Addr → Mark) (hmk : mk = .read ∨ mk = .write) (hk : b.kind ≠ .early) (hf : P.funcs[fn]? = some F) (hname : (F.name == "runtime.NumGoroutine") = false)
    (hb : F.body.isNone = true) (hn : Extern.findNext F = none) (he : Extern.find F = some (Extern.Race.marked mk)) {ad : Addr} (hx : (args.map (ev n f))[0]? = some (.pointer (some ad)))
    (hid : x.id = 0) (hs : ∀ O1 w1, Rel x O w O1 w1 → O1.tag ad.block = .sync ∧ ad.block < w1.heap.size)
    (h : InReg P x St O w b n (upd f d (.tuple #[])) ds all k cs (i + 1) os) :
    InReg P x St O w b n f ds all k cs i (⟨some d, .call { callee := .value (.func fn), args, argTypes := ats }, t, p, e, none⟩ :: os) := by
  intro ee
  obtain ⟨h1, h2⟩ := drop_get ee
  rw [List.length_cons, List.range'_succ]
  have hT := h h2
  refine .step (Tree P x St) rfl (fun O1 w1 r => ?_) (fun _ _ _ h => h)
  have hst := stepG_markAt (P := P) (main := x.id == 0) (b := b) (a := ⟨mkT n f, ds⟩) (kk := k) (cs := cs) (w := w1) (rest := List.range' (i + 1) os.length) mk (by rcases hmk with rfl | rfl <;> simp) h1 rfl hk rfl hf hname hb hn he (ad := ad) (by rw [eval_mkT]; exact hx)
  rw [put_mkT] at hst
  obtain ⟨hsy, hlt⟩ := hs O1 w1 r
  refine ⟨_, w1, _, O1, hst, Moves.still (fun e he => ?_) (fun e he => ?_), hT.rely r⟩
  · simp at he; subst he
    refine .inr (.inr (.inr (.inr (.inr (.inr ⟨ad, ?_, hid, hsy, hlt⟩)))))
    rcases hmk with rfl | rfl
    · exact .inl rfl
    · exact .inr rfl
  · simp at he; subst he
    rcases hmk with rfl | rfl <;> simp
end
end Go.Proofs.Ytdajdembeacefaa.M

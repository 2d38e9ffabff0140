/-
  THE CALCULUS, 11: variables: made, written. A deferred 'close'. A child's first step.
-/
import Derived.Test.YtdajdembeacefaaAG
import Derived.Conc.TokenWalk
set_option linter.unusedSimpArgs false
set_option linter.unusedVariables false
namespace Go.Proofs.Ytdajdembeacefaa.M
open Go.Conc
open Go.ConcR (KK WgAt stA smA rd wr mk)

section
variable {x : Th} {St : Gh → Goroutine → World → Prop} {O : Gh} {w : World} {b : Frame} {n : Nat} {f : Nat → Value} {ds : List Deferred} {k : List Item} {cs : List Frame} {all os : List Oper} {i : Nat} {o : Oper} {d : Nat} {t : TypeId} {p : String} {e : Array Edge}

theorem runL_run {α : Type} {s : Sem α} {a : α} (h : runL P (fun _ => none) s = some a) (w : World) : s.run P w = .ok a w := (runL_sound (w := w) (fun _ _ h => by cases h) s a h).1
theorem runL_events {α : Type} {s : Sem α} {a : α} (h : runL P (fun _ => none) s = some a) (w : World) (es : Array Event) : s.events P w es = es := by
  induction s generalizing es with
  | pure a => rfl
  | program k ih => exact ih P h es
  | load m a k ih => cases m <;> simp [runL] at h
  | _ => simp [runL] at h

/-- A new variable of its zero value. -/
theorem t_alloc {elem : TypeId} {z : Value} (hk : b.kind ≠ .early) (hz : runL P (fun _ => none) (zeroValue elem) = some z)
    (h : ∀ m O1 w1, New x O w O1 w1 m (.cells z.cells elem) → InReg P x St O1 w1 b n (upd f d (.pointer (some ⟨m, 0, none⟩))) ds all k cs (i + 1) os) :
    InReg P x St O w b n f ds all k cs i (⟨some d, .alloc elem, t, p, e, none⟩ :: os) := by
  refine t_new (o := ⟨some d, .alloc elem, t, p, e, none⟩) (val := fun m => .pointer (some ⟨m, 0, none⟩)) hk rfl (fun w => ?_) (fun w => ?_) h
  · have h1 := runL_run hz w
    simp only [execOp, Instr.alloc]
    simp [h1, newVar, newRow, run_newObj, Result.andThen]
    rfl
  · have h1 := runL_run hz w
    have h2 := runL_events hz w #[]
    simp only [execOp, Instr.alloc]
    simp [h1, h2, newVar, newRow, Result.evThen]

/-- A variable (a part of one) of the thread's own is written. -/
theorem t_store {u sz : Nat} {y z : Operand} {m off : Nat} {c : Array Value} {tt : TypeId} (vs : List Value) (hk : b.kind ≠ .early) (hsz : (P.info? u).map (·.size) = some sz) (hy : ev n f y = .pointer (some ⟨m, off, none⟩))
    (hv : (ev n f z).cells = vs.toArray) (hvl : vs.length = sz) (h1 : ∀ v ∈ vs, one? v = true) (hown : O.tag m = .mine x.id ∨ (O.tag m = .front ∧ x.id = 0 ∧ 0 < off)) (hm : w.heap[m]? = some (.cells c tt (0, 0))) (hlen : off + sz ≤ c.size)
    (h : ∀ O1 w1 w', Rel x O w O1 w1 → Mod O1 w1 O1 w' m → O1.tag m = O.tag m → w'.heap[m]? = some (.cells ((c.toList.take off ++ vs ++ c.toList.drop (off + sz)).toArray) tt (0, 0)) → InReg P x St O1 w' b n f ds all k cs (i + 1) os) :
    InReg P x St O w b n f ds all k cs i (⟨none, .store u y z, t, p, e, none⟩ :: os) := by
  refine t_wp hk rfl fun O1 w1 r => ?_
  have hlt := (Array.getElem?_eq_some_iff.1 hm).1
  have hs : Sees x O m := hown.elim .inl fun h => .inr (.inr ⟨h.1, h.2.1⟩)
  have ht := r.tags m hlt hs
  have hm1 := (r.block m hlt hs).trans hm
  simp only [execOp, Instr.storeAt, hy, Instr.sureAddr, storeVar]
  rw [wpS_bind, wpS_bind]
  refine (wpS_pure _ _).2 ?_
  rw [wpS_bind]
  refine wpS_runL _ sz (by rw [runL_sizeOf]; exact hsz) ?_
  rw [hv]
  simp only [List.size_toArray, hvl, ne_eq, not_true_eq_false, if_false]
  refine wpS_storeCells m off tt vs 0 c w1 (by rw [ht]; simpa using hown) hm1 (by omega) h1 fun w' hw' hmod => ?_
  simp only [Nat.add_zero, hvl] at hw'
  exact h O1 w1 w' r hmod ht hw'

/-- A deferred 'close' of a channel. -/
def bclose (c : Nat) (ats : Array TypeId) (ty : TypeId) : Deferred := { target := .builtin .close ats ty #[false], args := #[.chan (some c)] }
theorem t_deferClose {y : Nat} {ats : Array TypeId} {c : Nat} (hk : b.kind ≠ .early) (hy : ev n f (.tmp y) = .chan (some c))
    (h : InReg P x St O w b n f (bclose c ats t :: ds) all k cs (i + 1) os) :
    InReg P x St O w b n f ds all k cs i (⟨none, .defer { callee := .builtin .close, args := #[.tmp y], argTypes := ats }, t, p, e, none⟩ :: os) := by
  intro ee
  obtain ⟨h1, h2⟩ := drop_get ee
  rw [List.length_cons, List.range'_succ]
  refine t_ctl rfl (fun w => ?_) (h h2)
  have hr : (execOp (Act.mk (mkT n f) ds).eval ⟨none, .defer { callee := .builtin .close, args := #[.tmp y], argTypes := ats }, t, p, e, none⟩).run P w = .ok (.defer (bclose c ats t)) w := by
    rw [eval_mkT]
    simp only [execOp, resolve]
    simp [hy, bclose]
  have he : (execOp (Act.mk (mkT n f) ds).eval ⟨none, .defer { callee := .builtin .close, args := #[.tmp y], argTypes := ats }, t, p, e, none⟩).events P w #[] = #[] := by
    rw [eval_mkT]
    simp only [execOp, resolve]
    simp
  have hfin : (b.at ⟨mkT n f, bclose c ats t :: ds⟩ (.inRegion all.toArray (i :: List.range' (i + 1) os.length) :: k)).finish undef = b.at (Act.put ⟨mkT n f, bclose c ats t :: ds⟩ none undef) (.inRegion all.toArray (List.range' (i + 1) os.length) :: k) := by rw [Frame.finish_at, h1]; rfl
  have hk' : (b.kind == CallKind.early) = false := by simpa using hk
  unfold Fr
  rw [stepG_oper (a := ⟨mkT n f, ds⟩) h1 rfl]
  rw [show b.at ⟨mkT n f, bclose c ats t :: ds⟩ (.inRegion all.toArray (List.range' (i + 1) os.length) :: k) = _ from hfin.symm]
  simp [stepG.apply, hr, he, G, Frame.at, hk', GStep.after, seen_none]
/-- The step of a deferred 'close', where the channel is open. -/
theorem step_unwind_close {main : Bool} {c s r : Nat} {tm : Bool} {ats : Array TypeId} {ty : TypeId} {todo : List Item} (hq : (P.funcs[b.fn]?).any (·.norace) = false) (hc : w.heap[c]? = some (.chan 0 #[] false s r tm)) :
    stepG P main (G { Fr b n f (bclose c ats ty :: ds) todo with mode := .returning } cs) w = .go (G { Fr b n f ds todo with mode := .returning } cs) (w.shut c s r tm) (closeEv c) := by
  have hr : (invoke (bclose c ats ty).target (bclose c ats ty).args).run P w = .ok (.value (.tuple #[])) (w.shut c s r tm) := by
    simp only [bclose, invoke, builtin]
    simp [run_close_open (P := P) ats ty hc, World.shut]
  have he : (invoke (bclose c ats ty).target (bclose c ats ty).args).events P w #[] = closeEv c := by
    simp only [bclose, invoke, builtin]
    simp [events_close_open (P := P) ats ty hc, closeEv]
  have hs : seen P b.fn (closeEv c) = closeEv c := seen_eq hq (by intro e he f; simp only [closeEv, List.mem_toArray, List.mem_cons, List.not_mem_nil, or_false] at he; rcases he with rfl | rfl <;> simp)
  simp only [bclose] at hr he
  simp [G, stepG, unwind, callDeferred, Fr, Frame.at, bclose, hr, he, hs, GStep.after]
end
end Go.Proofs.Ytdajdembeacefaa.M

/-
  THE SENDER's WHOLE LIFE: from its birth at the go statement.
-/
import Derived.Test.YtdajdembeacefaaAJ
set_option linter.unusedSimpArgs false
set_option linter.unusedVariables false
namespace Go.Proofs.Ytdajdembeacefaa.M
open Go.Conc
open Go.ConcR (KK WgAt stA smA rd wr mk)

noncomputable def bot : Frame := { (default : Frame) with fn := P.funcs.size, defers := [], mode := .panicking [goexitEntry] }
def goCall (Wg lb fb eb : Nat) : Deferred := { target := .fn (.func 25) #[ptr Wg 0, ptr lb 0, ptr fb 0, ptr eb 0], args := #[] }
theorem born_step (Wg lb fb eb : Nat) (w : World) : stepG P false (born P (goCall Wg lb fb eb)) w = .go (G (Frame.enter P 25 #[ptr Wg 0, ptr lb 0, ptr fb 0, ptr eb 0] .deferred) [bot]) w #[] := by
  have h1 : P.funcs[25]? = some Try.f25 := Try.func25
  have h2 := nm25
  obtain ⟨c, h3⟩ : ∃ c, (Try.f25).body = some c := ⟨_, rfl⟩
  have h4 : ¬ (Try.f25).name = "runtime.NumGoroutine" := by simpa using h2
  have hr : (callFunc 25 #[ptr Wg 0, ptr lb 0, ptr fb 0, ptr eb 0]).run P w = .ok (.enter 25 #[ptr Wg 0, ptr lb 0, ptr fb 0, ptr eb 0]) w := by
    simp [callFunc, h1, h4, h3]
  have he : (callFunc 25 #[ptr Wg 0, ptr lb 0, ptr fb 0, ptr eb 0]).events P w #[] = #[] := by
    simp [callFunc, h1, h4, h3]
  simp [born, goCall, stepG, unwind, callDeferred, invoke, hr, he, seen_none, GStep.after, G, bot]
theorem quit_bot : QuitE 0 (G bot []) := by
  refine ⟨1, QuitsD.ctl (g' := { G bot [] with status := .finished }) rfl (fun w => ?_) ⟨rfl, rfl⟩⟩
  simp [G, stepG, unwind, bot, goexitEntry, Frame.catches]
  rfl
theorem quit_25 (f : Nat → Value) (todo : List Item) : QuitE 0 (G { Fr (baseD 25) 11 f [] todo with mode := .returning } [bot]) := by
  refine ctl_quit 0 _ (G bot []) rfl (fun w => ?_) quit_bot
  have h1 : P.funcs[25]? = some Try.f25 := Try.func25
  have h2 : (Try.f25).results = #[] := rfl
  have hr : ∀ T, (results Try.f25 T).run P w = .ok (.tuple #[]) w := fun T => results_none h2 T P w
  have he : ∀ T, (results Try.f25 T).events P w #[] = #[] := fun T => events_results_none h2 T _
  simp [G, stepG, unwind, doReturn, Fr, Frame.at, baseD, h1, hr, he, bot, seen_none, GStep.after, goexitEntry]
theorem enterD4 {fn n : Nat} {F : Func} {c : Code} (a d e g : Value) (hf : P.funcs[fn]? = some F) (hb : F.body = some c) (hn : F.ntmps = n) (h : 4 ≤ n) :
    Frame.enter P fn #[a, d, e, g] .deferred = Fr (baseD fn) n (args4 a d e g) [] [.code c] := by
  subst hn; rw [enter_atD #[a, d, e, g] hf hb, mkT_enter #[a, d, e, g] _ h, getD4]; rfl

set_option maxHeartbeats 4000000 in
theorem child_M {x : Th} (hx : (x.id == 0) = false) (ty : TypeId) (Wg e ch lb fb frb eb : Nat) (l : List Ent) (v : Value) (O : Gh) (w : World) (hl : ldOf x O w ⟨lb, 0, none⟩ = some v) (hv : SlE (ldOf x O w) v l) (hlen : l.length < 1000000)
    (hf : ldOf x O w ⟨fb, 0, none⟩ = some (.pointer (some ⟨frb, 0, none⟩))) (hfr : ldOf x O w ⟨frb, 0, none⟩ = some (.chan (some ch))) (he : ldOf x O w ⟨eb, 0, none⟩ = some (.chan (some e)))
    (hd : O.deaf = 0) (hsy : O.tag Wg = .sync) (hsh : w.shape? Wg = some (ty, 2)) (hct : O.tag ch = .sync) (hcl : ch < w.heap.size) :
    SRun P ty Wg e x ch (l.map Ent.v) O (born P (goCall Wg lb fb eb)) w := by
  rw [SRun_eq]
  refine t_ctl (g' := G (Frame.enter P 25 #[ptr Wg 0, ptr lb 0, ptr fb 0, ptr eb 0] .deferred) [bot]) rfl (fun w => by rw [hx]; exact born_step Wg lb fb eb w) ?_
  unfold ptr
  rw [enterD4 _ _ _ _ Try.func25 rfl Try.ntmps25 (by decide)]
  have a0 : Addr.add ⟨frb, 0, none⟩ 0 = ⟨frb, 0, none⟩ := add_none _ _ _
  refine t_seq ?_
  refine t_region ?_
  refine t_defer (vals := #[.pointer (some ⟨Wg, 0, none⟩)]) (by decide) (by simp only [List.map_toArray, List.map_cons, List.map_nil, Xa, Xb, Xc, Xd, Xe, Xf, Xg, Xh, Xi, Xj, Xk, Xl, Xm, Xn, Xo, Xp, Xq, Xr, Xs, Xt, Xu, Xv, Xw, Xx, Xy, Xz, XA, XB, XD, XE, XF, XG, XH, XI, ev, XJ, upd, args1, args2, args3, args4, XK, XL, XM, extL, XN, XO, XP, XQ, XR, XT, XU, XV, XW, XX, XY, XZ, X0, X1, X2, X3, Addr.add, ↓reduceIte, Nat.reduceLT, Nat.reduceEqDiff, Nat.zero_add, Nat.reduceAdd, Option.map_some, X4, List.getElem_toArray, List.getElem_cons_zero, List.getElem_cons_succ]) ?_
  refine t_done ?_
  refine t_drawnL rfl rfl (by decide) ?_
  iterate 6
    refine l_rd (fun K hK => ?_)
    simp only [Xa, Xb, Xc, Xd, Xe, Xf, Xg, Xh, Xi, Xj, Xk, Xl, Xm, Xn, Xo, Xp, Xq, Xr, Xs, Xt, Xu, Xv, Xw, Xx, Xy, Xz, XA, XB, XD, XE, XF, XG, XH, XI, ev, XJ, upd, args1, args2, args3, args4, XK, XL, XM, extL, XN, XO, XP, XQ, XR, XT, XU, XV, XW, XX, XY, XZ, X0, X1, X2, X3, Addr.add, ↓reduceIte, Nat.reduceLT, Nat.reduceEqDiff, Nat.zero_add, Nat.reduceAdd, Option.map_some, X4, List.getElem_toArray, List.getElem_cons_zero, List.getElem_cons_succ, x_nil, nilL_some, Option.isSome_some, a0, hl, hf, hfr, he]
    refine hK _ ?_
    clear hK K
  refine l_last rfl (fun O1 w1 r1 => ?_) rfl
  refine c_call (ctl_tree x _ O1 w1) #[v, .chan (some ch), .chan (some e)] (by decide) Try.func27 nm27 rfl (by simp only [List.map_toArray, List.map_cons, List.map_nil, Xa, Xb, Xc, Xd, Xe, Xf, Xg, Xh, Xi, Xj, Xk, Xl, Xm, Xn, Xo, Xp, Xq, Xr, Xs, Xt, Xu, Xv, Xw, Xx, Xy, Xz, XA, XB, XD, XE, XF, XG, XH, XI, ev, XJ, upd, args1, args2, args3, args4, XK, XL, XM, extL, XN, XO, XP, XQ, XR, XT, XU, XV, XW, XX, XY, XZ, X0, X1, X2, X3, Addr.add, ↓reduceIte, Nat.reduceLT, Nat.reduceEqDiff, Nat.zero_add, Nat.reduceAdd, Option.map_some, X4, List.getElem_toArray, List.getElem_cons_zero, List.getElem_cons_succ]) ?_
  intro c2 hgo
  have := send_M hx ty Wg e ch l v O1 w1 (hv.rely r1) hlen (r1.deaf.trans hd) (r1.sy _ hcl hct) (Nat.lt_of_lt_of_le hcl r1.size) c2 [bot] (fun O2 w2 r2 => ?_)
  · rw [SRun_eq] at this; exact this
  · have hlt := shape_lt hsh
    have r3 := r1.trans r2
    refine hgo (fun g => Tree P x (AtR0 P ty Wg) O2 g w2) _ ?_
    have hW := ctl_tree x (AtR0 P ty Wg) O2 w2
    refine c_done hW ?_
    refine c_end hW ?_
    refine t_ctl rfl (fun w => stepG_unwind_enter (a := ⟨mkT 11 _, [dcall 26 #[.pointer (some ⟨Wg, 0, none⟩)]]⟩) rfl Try.func26 nm26 rfl) ?_
    have hdone := fun f => done_M hx ty Wg O2 w2 (r3.sy _ hlt hsy) ((r3.shp _ hlt hsy).trans hsh) (r3.deaf.trans hd) { Fr (baseD 25) 11 f [] [] with mode := .returning } [bot] rfl (quit_25 f [])
    rw [enter_atD #[ptr Wg 0] Try.func26 rfl] at hdone
    exact hdone _
end Go.Proofs.Ytdajdembeacefaa.M

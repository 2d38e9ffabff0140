/-
  Contracts of small functions, in the calculus.
-/
import Derived.Test.YtdajdembeacefaaC
set_option linter.unusedSimpArgs false
set_option linter.unusedVariables false
namespace Go.Proofs.Ytdajdembeacefaa.M
open Go.Conc
structure Ent where
  key : ByteArray
  seq : Int
  del : Bool
  val : ByteArray
def Ent.cells (e : Ent) : Array Value := #[.string e.key, .int .i64 e.seq, .bool e.del, .string e.val]
def Ent.v (e : Ent) : Value := .agg e.cells
def bef (a b : Ent) : Bool := Op.bytesLess a.key.toList b.key.toList || (a.key.toList == b.key.toList && decide (b.seq < a.seq))

set_option maxHeartbeats 1000000 in
theorem before_M {x : Th} {St : Gh → Goroutine → World → Prop} (a b : Ent) (O : Gh) (w : World) (c : Frame) (cs : List Frame)
    (h : ∀ O' w', Rel x O w O' w' → Tree P x St O' (G (c.finish (.bool (bef a b))) cs) w') :
    Tree P x St O (G (Frame.enter P 36 #[a.v, b.v] .normal) (c :: cs)) w := by
  rw [enter2 _ _ Try.func36 rfl Try.ntmps36 (by decide)]
  refine t_seq ?_
  refine t_region ?_
  refine t_box a.cells rfl (by decide) ?_
  intro m1 O1 w1 h1
  refine t_box b.cells rfl (by decide) ?_
  intro m2 O2 w2 h2
  repeat (first
    | (refine t_skG rfl (by decide) rfl ?_)
    | (refine t_skU rfl (by decide) rfl ?_)
    | (first | refine t_rdG (by decide) rfl (by decide) rfl (fun K hK => ?_) | refine t_rd (by decide) (fun K hK => ?_)
       simp only [Xa, Xb, Xc, Xd, Xe, Xf, Xg, Xh, Xi, Xj, Xk, Xl, Xm, Xn, Xo, Xp, Xq, Xr, Xs, Xt, Xu, Xv, Xw, Xx, Xy, Xz, XA, XB, XD, XE, XF, XG, XH, XI, ev, XJ, upd, args1, args2, args3, args4, XK, XL, XM, extL, XN, XO, XP, XQ, XR, XT, XU, XV, XW, XX, X0, X1, X2, X3, Addr.add, ↓reduceIte, Nat.reduceLT, Nat.reduceEqDiff, Nat.zero_add, Nat.reduceAdd, Option.map_some, X4, List.getElem_toArray, List.getElem_cons_zero, List.getElem_cons_succ]
       refine hK _ ?_
       clear hK K))
  refine t_done ?_
  refine t_seq ?_
  refine t_region ?_
  have a0 := ldOf_rely h2.rel (h1.cell 0 (.string a.key) rfl)
  have a1 := ldOf_rely h2.rel (h1.cell 1 (.int .i64 a.seq) rfl)
  have b0 := h2.cell 0 (.string b.key) rfl
  have b1 := h2.cell 1 (.int .i64 b.seq) rfl
  replace h := h O2 w2 (h1.rel.trans h2.rel)
  cases hl : Op.bytesLess a.key.toList b.key.toList with
  | true =>
    repeat (first
      | (refine t_skG rfl (by decide) rfl ?_)
      | (refine t_skU rfl (by decide) rfl ?_)
      | (first | refine t_rdG (by decide) rfl (by decide) rfl (fun K hK => ?_) | refine t_rd (by decide) (fun K hK => ?_)
         simp only [Xa, Xb, Xc, Xd, Xe, Xf, Xg, Xh, Xi, Xj, Xk, Xl, Xm, Xn, Xo, Xp, Xq, Xr, Xs, Xt, Xu, Xv, Xw, Xx, Xy, Xz, XA, XB, XD, XE, XF, XG, XH, XI, ev, XJ, upd, args1, args2, args3, args4, XK, XL, XM, extL, XN, XO, XP, XQ, XR, XT, XU, XV, XW, XX, X0, X1, X2, X3, Addr.add, ↓reduceIte, Nat.reduceLT, Nat.reduceEqDiff, Nat.zero_add, Nat.reduceAdd, Option.map_some, X4, List.getElem_toArray, List.getElem_cons_zero, List.getElem_cons_succ, a0, a1, b0, b1, hl]
         refine hK _ ?_
         clear hK K))
    refine t_done ?_
    refine t_ret ?_
    refine t_leave1 rfl Try.func36 Try.results36 ?_
    rw [show bef a b = true from by simp [bef, hl]] at h; exact h
  | false =>
    cases he : (a.key.toList == b.key.toList) with
    | true =>
      repeat (first
        | (refine t_skG rfl (by decide) rfl ?_)
        | (refine t_skU rfl (by decide) rfl ?_)
        | (first | refine t_rdG (by decide) rfl (by decide) rfl (fun K hK => ?_) | refine t_rd (by decide) (fun K hK => ?_)
           simp only [Xa, Xb, Xc, Xd, Xe, Xf, Xg, Xh, Xi, Xj, Xk, Xl, Xm, Xn, Xo, Xp, Xq, Xr, Xs, Xt, Xu, Xv, Xw, Xx, Xy, Xz, XA, XB, XD, XE, XF, XG, XH, XI, ev, XJ, upd, args1, args2, args3, args4, XK, XL, XM, extL, XN, XO, XP, XQ, XR, XT, XU, XV, XW, XX, X0, X1, X2, X3, Addr.add, ↓reduceIte, Nat.reduceLT, Nat.reduceEqDiff, Nat.zero_add, Nat.reduceAdd, Option.map_some, X4, List.getElem_toArray, List.getElem_cons_zero, List.getElem_cons_succ, a0, a1, b0, b1, hl, he]
           refine hK _ ?_
           clear hK K))
      refine t_done ?_
      refine t_ret ?_
      refine t_leave1 rfl Try.func36 Try.results36 ?_
      rw [show bef a b = decide (b.seq < a.seq) from by simp [bef, hl, he]] at h; exact h
    | false =>
      repeat (first
        | (refine t_skG rfl (by decide) rfl ?_)
        | (refine t_skU rfl (by decide) rfl ?_)
        | (first | refine t_rdG (by decide) rfl (by decide) rfl (fun K hK => ?_) | refine t_rd (by decide) (fun K hK => ?_)
           simp only [Xa, Xb, Xc, Xd, Xe, Xf, Xg, Xh, Xi, Xj, Xk, Xl, Xm, Xn, Xo, Xp, Xq, Xr, Xs, Xt, Xu, Xv, Xw, Xx, Xy, Xz, XA, XB, XD, XE, XF, XG, XH, XI, ev, XJ, upd, args1, args2, args3, args4, XK, XL, XM, extL, XN, XO, XP, XQ, XR, XT, XU, XV, XW, XX, X0, X1, X2, X3, Addr.add, ↓reduceIte, Nat.reduceLT, Nat.reduceEqDiff, Nat.zero_add, Nat.reduceAdd, Option.map_some, X4, List.getElem_toArray, List.getElem_cons_zero, List.getElem_cons_succ, a0, a1, b0, b1, hl, he]
           refine hK _ ?_
           clear hK K))
      refine t_done ?_
      refine t_ret ?_
      refine t_leave1 rfl Try.func36 Try.results36 ?_
      rw [show bef a b = false from by simp [bef, hl, he]] at h; exact h
end Go.Proofs.Ytdajdembeacefaa.M

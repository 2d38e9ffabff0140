/-
  Contracts of functions that only read, in the calculus.
-/
import Derived.Test.YtdajdembeacefaaR
import Derived.Test.YtdajdembeacefaaT
set_option linter.unusedSimpArgs false
set_option linter.unusedVariables false
namespace Go.Proofs.Ytdajdembeacefaa.M
open Go.Conc

set_option maxHeartbeats 4000000 in
theorem ordered_M {x : Th} {St : Gh → Goroutine → World → Prop} (l : List Ent) (v : Value) (O : Gh) (w : World) (c : Frame) (cs : List Frame) (hv : SlE (ldOf x O w) v l) (hlen : l.length < 1000000)
    (h : ∀ O' w', Rel x O w O' w' → Tree P x St O' (G (c.finish (.bool (ordL l))) cs) w') :
    Tree P x St O (G (Frame.enter P 23 #[v] .normal) (c :: cs)) w := by
  rw [enter1 _ Try.func23 rfl Try.ntmps23 (by decide)]
  have hl := hv.len
  refine t_seq ?_
  refine t_region ?_
  repeat (first
    | (refine t_skG rfl (by decide) rfl ?_)
    | (refine t_skU rfl (by decide) rfl ?_)
    | (first | refine t_rdG (by decide) rfl (by decide) rfl (fun K hK => ?_) | refine t_rd (by decide) (fun K hK => ?_)
       simp only [Xa, Xb, Xc, Xd, Xe, Xf, Xg, Xh, Xi, Xj, Xk, Xl, Xm, Xn, Xo, Xp, Xq, Xr, Xs, Xt, Xu, Xv, Xw, Xx, Xy, Xz, XA, XB, XD, XE, XF, XG, XH, XI, ev, XJ, upd, args1, args2, args3, args4, XK, XL, XM, extL, XN, XO, XP, XQ, XR, XT, XU, XV, XW, XX, XY, XZ, X0, X1, X2, X3, Addr.add, ↓reduceIte, Nat.reduceLT, Nat.reduceEqDiff, Nat.zero_add, Nat.reduceAdd, Option.map_some, X4, List.getElem_toArray, List.getElem_cons_zero, List.getElem_cons_succ]
       refine hK _ ?_
       clear hK K))
  refine t_done ?_
  refine t_seq ?_
  refine t_seq ?_
  refine t_region ?_
  repeat (first
    | (refine t_skG rfl (by decide) rfl ?_)
    | (refine t_skU rfl (by decide) rfl ?_)
    | (first | refine t_rdG (by decide) rfl (by decide) rfl (fun K hK => ?_) | refine t_rd (by decide) (fun K hK => ?_)
       simp only [Xa, Xb, Xc, Xd, Xe, Xf, Xg, Xh, Xi, Xj, Xk, Xl, Xm, Xn, Xo, Xp, Xq, Xr, Xs, Xt, Xu, Xv, Xw, Xx, Xy, Xz, XA, XB, XD, XE, XF, XG, XH, XI, ev, XJ, upd, args1, args2, args3, args4, XK, XL, XM, extL, XN, XO, XP, XQ, XR, XT, XU, XV, XW, XX, XY, XZ, X0, X1, X2, X3, Addr.add, ↓reduceIte, Nat.reduceLT, Nat.reduceEqDiff, Nat.zero_add, Nat.reduceAdd, Option.map_some, X4, List.getElem_toArray, List.getElem_cons_zero, List.getElem_cons_succ]
       refine hK _ ?_
       clear hK K))
  refine t_done ?_
  refine t_block ?_
  refine t_loop ?_
  refine t_while (fun m f O' w' => Rel x O w O' w' ∧ f 0 = v ∧ ∃ j : Nat, f 3 = .int .i64 ((j + 1 : Nat) : Int) ∧ m = l.length - j ∧ j ≤ l.length ∧ ∀ (i : Nat) (a b : Ent), i < j → l[i]? = some a → l[i + 1]? = some b → bef a b = true)
    l.length ⟨Rel.refl x O w, rfl, 0, rfl, rfl, Nat.zero_le _, fun i a b hi => by omega⟩ ?_
  rintro m f O1 w1 ⟨r1, hf0, j, hf3, hm, hj, hall⟩ ih
  have hv1 := hv.rely r1
  have hw2 : IntKind.i64.wrap (((j + 1 : Nat) : Int) + 1) = ((j + 1 + 1 : Nat) : Int) := by rw [wrap64] <;> omega
  have hw1 : IntKind.i64.wrap (((j + 1 : Nat) : Int) - 1) = ((j : Nat) : Int) := by rw [wrap64] <;> omega
  refine t_seq ?_
  refine t_seq ?_
  refine t_region ?_
  by_cases hlt : j + 1 < l.length
  · have hd : decide (((j + 1 : Nat) : Int) < (l.length : Int)) = true := by simp; omega
    repeat (first
      | (refine t_skG rfl (by decide) rfl ?_)
      | (refine t_skU rfl (by decide) rfl ?_)
      | (first | refine t_rdG (by decide) rfl (by decide) rfl (fun K hK => ?_) | refine t_rd (by decide) (fun K hK => ?_)
         simp only [Xa, Xb, Xc, Xd, Xe, Xf, Xg, Xh, Xi, Xj, Xk, Xl, Xm, Xn, Xo, Xp, Xq, Xr, Xs, Xt, Xu, Xv, Xw, Xx, Xy, Xz, XA, XB, XD, XE, XF, XG, XH, XI, ev, XJ, upd, args1, args2, args3, args4, XK, XL, XM, extL, XN, XO, XP, XQ, XR, XT, XU, XV, XW, XX, XY, XZ, X0, X1, X2, X3, Addr.add, ↓reduceIte, Nat.reduceLT, Nat.reduceEqDiff, Nat.zero_add, Nat.reduceAdd, Option.map_some, X4, List.getElem_toArray, List.getElem_cons_zero, List.getElem_cons_succ, hf0, hf3, hl, hd]
         refine hK _ ?_
         clear hK K))
    refine t_done ?_
    refine t_true rfl ?_
    refine t_skip ?_
    refine t_seq ?_
    refine t_block ?_
    refine t_seq ?_
    obtain ⟨A, hA⟩ := hv1.at (List.getElem?_eq_getElem (show j < l.length by omega))
    obtain ⟨B, hB⟩ := hv1.at (List.getElem?_eq_getElem hlt)
    have iA := hA.idx
    have iB := hB.idx
    have lA := hA.whole
    have lB := hB.whole
    refine t_drawn rfl (by decide) ?_
    repeat (first
      | (refine d_skG rfl (by decide) rfl ?_)
      | (refine d_skU rfl (by decide) rfl ?_)
      | (first | refine d_rdG rfl (by decide) rfl (fun K hK => ?_) | refine d_rd (fun K hK => ?_)
         simp only [Xa, Xb, Xc, Xd, Xe, Xf, Xg, Xh, Xi, Xj, Xk, Xl, Xm, Xn, Xo, Xp, Xq, Xr, Xs, Xt, Xu, Xv, Xw, Xx, Xy, Xz, XA, XB, XD, XE, XF, XG, XH, XI, ev, XJ, upd, args1, args2, args3, args4, XK, XL, XM, extL, XN, XO, XP, XQ, XR, XT, XU, XV, XW, XX, XY, XZ, X0, X1, X2, X3, Addr.add, ↓reduceIte, Nat.reduceLT, Nat.reduceEqDiff, Nat.zero_add, Nat.reduceAdd, Option.map_some, X4, List.getElem_toArray, List.getElem_cons_zero, List.getElem_cons_succ, hf0, hf3, hw1, iA, iB, lA, lB]
         refine hK _ ?_
         clear hK K))
    refine d_call0 (v := .bool (bef l[j] l[j + 1])) (vals := #[l[j].v, l[j + 1].v]) (by decide) rfl rfl Try.func36 rfl rfl (by simp only [List.map_toArray, List.map_cons, List.map_nil, Xa, Xb, Xc, Xd, Xe, Xf, Xg, Xh, Xi, Xj, Xk, Xl, Xm, Xn, Xo, Xp, Xq, Xr, Xs, Xt, Xu, Xv, Xw, Xx, Xy, Xz, XA, XB, XD, XE, XF, XG, XH, XI, ev, XJ, upd, args1, args2, args3, args4, XK, XL, XM, extL, XN, XO, XP, XQ, XR, XT, XU, XV, XW, XX, XY, XZ, X0, X1, X2, X3, Addr.add, ↓reduceIte, Nat.reduceLT, Nat.reduceEqDiff, Nat.zero_add, Nat.reduceAdd, Option.map_some, X4, List.getElem_toArray, List.getElem_cons_zero, List.getElem_cons_succ]) ?_ ?_
    · intro c2 O2 w2 r2 h2
      exact before_M l[j] l[j + 1] O2 w2 c2 _ h2
    ·
      repeat (first
        | (refine d_skG rfl (by decide) rfl ?_)
        | (refine d_skU rfl (by decide) rfl ?_)
        | (first | refine d_rdG rfl (by decide) rfl (fun K hK => ?_) | refine d_rd (fun K hK => ?_)
           simp only [Xa, Xb, Xc, Xd, Xe, Xf, Xg, Xh, Xi, Xj, Xk, Xl, Xm, Xn, Xo, Xp, Xq, Xr, Xs, Xt, Xu, Xv, Xw, Xx, Xy, Xz, XA, XB, XD, XE, XF, XG, XH, XI, ev, XJ, upd, args1, args2, args3, args4, XK, XL, XM, extL, XN, XO, XP, XQ, XR, XT, XU, XV, XW, XX, XY, XZ, X0, X1, X2, X3, Addr.add, ↓reduceIte, Nat.reduceLT, Nat.reduceEqDiff, Nat.zero_add, Nat.reduceAdd, Option.map_some, X4, List.getElem_toArray, List.getElem_cons_zero, List.getElem_cons_succ]
           refine hK _ ?_
           clear hK K))
      refine d_done ?_
      intro O2 w2 r2
      cases hb : bef l[j] l[j + 1] with
      | false =>
        refine t_true (by simp only [Xa, Xb, Xc, Xd, Xe, Xf, Xg, Xh, Xi, Xj, Xk, Xl, Xm, Xn, Xo, Xp, Xq, Xr, Xs, Xt, Xu, Xv, Xw, Xx, Xy, Xz, XA, XB, XD, XE, XF, XG, XH, XI, ev, XJ, upd, args1, args2, args3, args4, XK, XL, XM, extL, XN, XO, XP, XQ, XR, XT, XU, XV, XW, XX, XY, XZ, X0, X1, X2, X3, Addr.add, ↓reduceIte, Nat.reduceLT, Nat.reduceEqDiff, Nat.zero_add, Nat.reduceAdd, Option.map_some, X4, List.getElem_toArray, List.getElem_cons_zero, List.getElem_cons_succ, hb]; rfl) ?_
        refine t_seq ?_
        refine t_region ?_
        repeat (first
          | (refine t_skG rfl (by decide) rfl ?_)
          | (refine t_skU rfl (by decide) rfl ?_)
          | (first | refine t_rdG (by decide) rfl (by decide) rfl (fun K hK => ?_) | refine t_rd (by decide) (fun K hK => ?_)
             simp only [Xa, Xb, Xc, Xd, Xe, Xf, Xg, Xh, Xi, Xj, Xk, Xl, Xm, Xn, Xo, Xp, Xq, Xr, Xs, Xt, Xu, Xv, Xw, Xx, Xy, Xz, XA, XB, XD, XE, XF, XG, XH, XI, ev, XJ, upd, args1, args2, args3, args4, XK, XL, XM, extL, XN, XO, XP, XQ, XR, XT, XU, XV, XW, XX, XY, XZ, X0, X1, X2, X3, Addr.add, ↓reduceIte, Nat.reduceLT, Nat.reduceEqDiff, Nat.zero_add, Nat.reduceAdd, Option.map_some, X4, List.getElem_toArray, List.getElem_cons_zero, List.getElem_cons_succ]
             refine hK _ ?_
             clear hK K))
        refine t_done ?_
        refine t_ret ?_
        refine t_leave1 rfl Try.func23 Try.results23 ?_
        have := h O2 w2 (r1.trans r2)
        rw [ordL_false (List.getElem?_eq_getElem (show j < l.length by omega)) (List.getElem?_eq_getElem hlt) hb] at this
        exact this
      | true =>
        refine t_false (by simp only [Xa, Xb, Xc, Xd, Xe, Xf, Xg, Xh, Xi, Xj, Xk, Xl, Xm, Xn, Xo, Xp, Xq, Xr, Xs, Xt, Xu, Xv, Xw, Xx, Xy, Xz, XA, XB, XD, XE, XF, XG, XH, XI, ev, XJ, upd, args1, args2, args3, args4, XK, XL, XM, extL, XN, XO, XP, XQ, XR, XT, XU, XV, XW, XX, XY, XZ, X0, X1, X2, X3, Addr.add, ↓reduceIte, Nat.reduceLT, Nat.reduceEqDiff, Nat.zero_add, Nat.reduceAdd, Option.map_some, X4, List.getElem_toArray, List.getElem_cons_zero, List.getElem_cons_succ, hb]; rfl) ?_
        refine t_skip ?_
        refine t_inBlock ?_
        refine t_region ?_
        repeat (first
          | (refine t_skG rfl (by decide) rfl ?_)
          | (refine t_skU rfl (by decide) rfl ?_)
          | (first | refine t_rdG (by decide) rfl (by decide) rfl (fun K hK => ?_) | refine t_rd (by decide) (fun K hK => ?_)
             simp only [Xa, Xb, Xc, Xd, Xe, Xf, Xg, Xh, Xi, Xj, Xk, Xl, Xm, Xn, Xo, Xp, Xq, Xr, Xs, Xt, Xu, Xv, Xw, Xx, Xy, Xz, XA, XB, XD, XE, XF, XG, XH, XI, ev, XJ, upd, args1, args2, args3, args4, XK, XL, XM, extL, XN, XO, XP, XQ, XR, XT, XU, XV, XW, XX, XY, XZ, X0, X1, X2, X3, Addr.add, ↓reduceIte, Nat.reduceLT, Nat.reduceEqDiff, Nat.zero_add, Nat.reduceAdd, Option.map_some, X4, List.getElem_toArray, List.getElem_cons_zero, List.getElem_cons_succ, hf3, hw2]
             refine hK _ ?_
             clear hK K))
        refine t_done ?_
        refine t_inLoop ?_
        refine ih (l.length - (j + 1)) _ O2 w2 (by omega) ⟨r1.trans r2, hf0, j + 1, rfl, rfl, by omega, fun i a b hi ha hb' => ?_⟩
        by_cases e : i = j
        · subst e
          rw [List.getElem?_eq_getElem (by omega)] at ha
          rw [List.getElem?_eq_getElem (by omega)] at hb'
          cases ha; cases hb'; exact hb
        · exact hall i a b (by omega) ha hb'
  · have hd : decide (((j + 1 : Nat) : Int) < (l.length : Int)) = false := by simp; omega
    repeat (first
      | (refine t_skG rfl (by decide) rfl ?_)
      | (refine t_skU rfl (by decide) rfl ?_)
      | (first | refine t_rdG (by decide) rfl (by decide) rfl (fun K hK => ?_) | refine t_rd (by decide) (fun K hK => ?_)
         simp only [Xa, Xb, Xc, Xd, Xe, Xf, Xg, Xh, Xi, Xj, Xk, Xl, Xm, Xn, Xo, Xp, Xq, Xr, Xs, Xt, Xu, Xv, Xw, Xx, Xy, Xz, XA, XB, XD, XE, XF, XG, XH, XI, ev, XJ, upd, args1, args2, args3, args4, XK, XL, XM, extL, XN, XO, XP, XQ, XR, XT, XU, XV, XW, XX, XY, XZ, X0, X1, X2, X3, Addr.add, ↓reduceIte, Nat.reduceLT, Nat.reduceEqDiff, Nat.zero_add, Nat.reduceAdd, Option.map_some, X4, List.getElem_toArray, List.getElem_cons_zero, List.getElem_cons_succ, hf0, hf3, hl, hd]
         refine hK _ ?_
         clear hK K))
    refine t_done ?_
    refine t_false rfl ?_
    refine t_exit rfl ?_
    refine t_seq ?_
    refine t_region ?_
    repeat (first
      | (refine t_skG rfl (by decide) rfl ?_)
      | (refine t_skU rfl (by decide) rfl ?_)
      | (first | refine t_rdG (by decide) rfl (by decide) rfl (fun K hK => ?_) | refine t_rd (by decide) (fun K hK => ?_)
         simp only [Xa, Xb, Xc, Xd, Xe, Xf, Xg, Xh, Xi, Xj, Xk, Xl, Xm, Xn, Xo, Xp, Xq, Xr, Xs, Xt, Xu, Xv, Xw, Xx, Xy, Xz, XA, XB, XD, XE, XF, XG, XH, XI, ev, XJ, upd, args1, args2, args3, args4, XK, XL, XM, extL, XN, XO, XP, XQ, XR, XT, XU, XV, XW, XX, XY, XZ, X0, X1, X2, X3, Addr.add, ↓reduceIte, Nat.reduceLT, Nat.reduceEqDiff, Nat.zero_add, Nat.reduceAdd, Option.map_some, X4, List.getElem_toArray, List.getElem_cons_zero, List.getElem_cons_succ]
         refine hK _ ?_
         clear hK K))
    refine t_done ?_
    refine t_ret ?_
    refine t_leave1 rfl Try.func23 Try.results23 ?_
    have := h O1 w1 r1
    rw [ordL_true fun i a b ha hb => hall i a b (by have := (List.getElem?_eq_some_iff.1 hb).1; omega) ha hb] at this
    exact this
set_option maxHeartbeats 1000000 in
theorem Before_M {x : Th} {St : Gh → Goroutine → World → Prop} (a b : Ent) (O : Gh) (w : World) (c : Frame) (cs : List Frame)
    (h : ∀ O' w', Rel x O w O' w' → Tree P x St O' (G (c.finish (.bool (bef a b))) cs) w') :
    Tree P x St O (G (Frame.enter P 15 #[a.v, b.v] .normal) (c :: cs)) w := by
  rw [enter2 _ _ Try.func15 rfl Try.ntmps15 (by decide)]
  refine t_seq ?_
  refine t_region ?_
  refine t_box a.cells rfl (by decide) ?_
  intro m1 O1 w1 h1
  refine t_box b.cells rfl (by decide) ?_
  intro m2 O2 w2 h2
  repeat (first
    | (refine t_skG rfl (by decide) rfl ?_)
    | (refine t_skU rfl (by decide) rfl ?_)
    | (first | refine t_rdG (by decide) rfl (by decide) rfl (fun K hK => ?_) | refine t_rd (by decide) (fun K hK => ?_)
       simp only [Xa, Xb, Xc, Xd, Xe, Xf, Xg, Xh, Xi, Xj, Xk, Xl, Xm, Xn, Xo, Xp, Xq, Xr, Xs, Xt, Xu, Xv, Xw, Xx, Xy, Xz, XA, XB, XD, XE, XF, XG, XH, XI, ev, XJ, upd, args1, args2, args3, args4, XK, XL, XM, extL, XN, XO, XP, XQ, XR, XT, XU, XV, XW, XX, XY, XZ, X0, X1, X2, X3, Addr.add, ↓reduceIte, Nat.reduceLT, Nat.reduceEqDiff, Nat.zero_add, Nat.reduceAdd, Option.map_some, X4, List.getElem_toArray, List.getElem_cons_zero, List.getElem_cons_succ]
       refine hK _ ?_
       clear hK K))
  refine t_done ?_
  refine t_seq ?_
  refine t_region ?_
  have a0 := ldOf_rely h2.rel (h1.cell 0 (.string a.key) rfl)
  have a1 := ldOf_rely h2.rel (h1.cell 1 (.int .i64 a.seq) rfl)
  have b0 := h2.cell 0 (.string b.key) rfl
  have b1 := h2.cell 1 (.int .i64 b.seq) rfl
  replace h := h O2 w2 (h1.rel.trans h2.rel)
  cases hl : Op.bytesLess a.key.toList b.key.toList with
  | true =>
    repeat (first
      | (refine t_skG rfl (by decide) rfl ?_)
      | (refine t_skU rfl (by decide) rfl ?_)
      | (first | refine t_rdG (by decide) rfl (by decide) rfl (fun K hK => ?_) | refine t_rd (by decide) (fun K hK => ?_)
         simp only [Xa, Xb, Xc, Xd, Xe, Xf, Xg, Xh, Xi, Xj, Xk, Xl, Xm, Xn, Xo, Xp, Xq, Xr, Xs, Xt, Xu, Xv, Xw, Xx, Xy, Xz, XA, XB, XD, XE, XF, XG, XH, XI, ev, XJ, upd, args1, args2, args3, args4, XK, XL, XM, extL, XN, XO, XP, XQ, XR, XT, XU, XV, XW, XX, XY, XZ, X0, X1, X2, X3, Addr.add, ↓reduceIte, Nat.reduceLT, Nat.reduceEqDiff, Nat.zero_add, Nat.reduceAdd, Option.map_some, X4, List.getElem_toArray, List.getElem_cons_zero, List.getElem_cons_succ, a0, a1, b0, b1, hl]
         refine hK _ ?_
         clear hK K))
    refine t_done ?_
    refine t_ret ?_
    refine t_leave1 rfl Try.func15 Try.results15 ?_
    rw [show bef a b = true from by simp [bef, hl]] at h; exact h
  | false =>
    cases he : (a.key.toList == b.key.toList) with
    | true =>
      repeat (first
        | (refine t_skG rfl (by decide) rfl ?_)
        | (refine t_skU rfl (by decide) rfl ?_)
        | (first | refine t_rdG (by decide) rfl (by decide) rfl (fun K hK => ?_) | refine t_rd (by decide) (fun K hK => ?_)
           simp only [Xa, Xb, Xc, Xd, Xe, Xf, Xg, Xh, Xi, Xj, Xk, Xl, Xm, Xn, Xo, Xp, Xq, Xr, Xs, Xt, Xu, Xv, Xw, Xx, Xy, Xz, XA, XB, XD, XE, XF, XG, XH, XI, ev, XJ, upd, args1, args2, args3, args4, XK, XL, XM, extL, XN, XO, XP, XQ, XR, XT, XU, XV, XW, XX, XY, XZ, X0, X1, X2, X3, Addr.add, ↓reduceIte, Nat.reduceLT, Nat.reduceEqDiff, Nat.zero_add, Nat.reduceAdd, Option.map_some, X4, List.getElem_toArray, List.getElem_cons_zero, List.getElem_cons_succ, a0, a1, b0, b1, hl, he]
           refine hK _ ?_
           clear hK K))
      refine t_done ?_
      refine t_ret ?_
      refine t_leave1 rfl Try.func15 Try.results15 ?_
      rw [show bef a b = decide (b.seq < a.seq) from by simp [bef, hl, he]] at h; exact h
    | false =>
      repeat (first
        | (refine t_skG rfl (by decide) rfl ?_)
        | (refine t_skU rfl (by decide) rfl ?_)
        | (first | refine t_rdG (by decide) rfl (by decide) rfl (fun K hK => ?_) | refine t_rd (by decide) (fun K hK => ?_)
           simp only [Xa, Xb, Xc, Xd, Xe, Xf, Xg, Xh, Xi, Xj, Xk, Xl, Xm, Xn, Xo, Xp, Xq, Xr, Xs, Xt, Xu, Xv, Xw, Xx, Xy, Xz, XA, XB, XD, XE, XF, XG, XH, XI, ev, XJ, upd, args1, args2, args3, args4, XK, XL, XM, extL, XN, XO, XP, XQ, XR, XT, XU, XV, XW, XX, XY, XZ, X0, X1, X2, X3, Addr.add, ↓reduceIte, Nat.reduceLT, Nat.reduceEqDiff, Nat.zero_add, Nat.reduceAdd, Option.map_some, X4, List.getElem_toArray, List.getElem_cons_zero, List.getElem_cons_succ, a0, a1, b0, b1, hl, he]
           refine hK _ ?_
           clear hK K))
      refine t_done ?_
      refine t_ret ?_
      refine t_leave1 rfl Try.func15 Try.results15 ?_
      rw [show bef a b = false from by simp [bef, hl, he]] at h; exact h

set_option maxHeartbeats 4000000 in
theorem Ordered_M {x : Th} {St : Gh → Goroutine → World → Prop} (l : List Ent) (v : Value) (O : Gh) (w : World) (c : Frame) (cs : List Frame) (hv : SlE (ldOf x O w) v l) (hlen : l.length < 1000000)
    (h : ∀ O' w', Rel x O w O' w' → Tree P x St O' (G (c.finish (.bool (ordL l))) cs) w') :
    Tree P x St O (G (Frame.enter P 19 #[v] .normal) (c :: cs)) w := by
  rw [enter1 _ Try.func19 rfl Try.ntmps19 (by decide)]
  have hl := hv.len
  refine t_seq ?_
  refine t_region ?_
  repeat (first
    | (refine t_skG rfl (by decide) rfl ?_)
    | (refine t_skU rfl (by decide) rfl ?_)
    | (first | refine t_rdG (by decide) rfl (by decide) rfl (fun K hK => ?_) | refine t_rd (by decide) (fun K hK => ?_)
       simp only [Xa, Xb, Xc, Xd, Xe, Xf, Xg, Xh, Xi, Xj, Xk, Xl, Xm, Xn, Xo, Xp, Xq, Xr, Xs, Xt, Xu, Xv, Xw, Xx, Xy, Xz, XA, XB, XD, XE, XF, XG, XH, XI, ev, XJ, upd, args1, args2, args3, args4, XK, XL, XM, extL, XN, XO, XP, XQ, XR, XT, XU, XV, XW, XX, XY, XZ, X0, X1, X2, X3, Addr.add, ↓reduceIte, Nat.reduceLT, Nat.reduceEqDiff, Nat.zero_add, Nat.reduceAdd, Option.map_some, X4, List.getElem_toArray, List.getElem_cons_zero, List.getElem_cons_succ]
       refine hK _ ?_
       clear hK K))
  refine t_done ?_
  refine t_seq ?_
  refine t_seq ?_
  refine t_region ?_
  repeat (first
    | (refine t_skG rfl (by decide) rfl ?_)
    | (refine t_skU rfl (by decide) rfl ?_)
    | (first | refine t_rdG (by decide) rfl (by decide) rfl (fun K hK => ?_) | refine t_rd (by decide) (fun K hK => ?_)
       simp only [Xa, Xb, Xc, Xd, Xe, Xf, Xg, Xh, Xi, Xj, Xk, Xl, Xm, Xn, Xo, Xp, Xq, Xr, Xs, Xt, Xu, Xv, Xw, Xx, Xy, Xz, XA, XB, XD, XE, XF, XG, XH, XI, ev, XJ, upd, args1, args2, args3, args4, XK, XL, XM, extL, XN, XO, XP, XQ, XR, XT, XU, XV, XW, XX, XY, XZ, X0, X1, X2, X3, Addr.add, ↓reduceIte, Nat.reduceLT, Nat.reduceEqDiff, Nat.zero_add, Nat.reduceAdd, Option.map_some, X4, List.getElem_toArray, List.getElem_cons_zero, List.getElem_cons_succ]
       refine hK _ ?_
       clear hK K))
  refine t_done ?_
  refine t_block ?_
  refine t_loop ?_
  refine t_while (fun m f O' w' => Rel x O w O' w' ∧ f 0 = v ∧ ∃ j : Nat, f 3 = .int .i64 ((j + 1 : Nat) : Int) ∧ m = l.length - j ∧ j ≤ l.length ∧ ∀ (i : Nat) (a b : Ent), i < j → l[i]? = some a → l[i + 1]? = some b → bef a b = true)
    l.length ⟨Rel.refl x O w, rfl, 0, rfl, rfl, Nat.zero_le _, fun i a b hi => by omega⟩ ?_
  rintro m f O1 w1 ⟨r1, hf0, j, hf3, hm, hj, hall⟩ ih
  have hv1 := hv.rely r1
  have hw2 : IntKind.i64.wrap (((j + 1 : Nat) : Int) + 1) = ((j + 1 + 1 : Nat) : Int) := by rw [wrap64] <;> omega
  have hw1 : IntKind.i64.wrap (((j + 1 : Nat) : Int) - 1) = ((j : Nat) : Int) := by rw [wrap64] <;> omega
  refine t_seq ?_
  refine t_seq ?_
  refine t_region ?_
  by_cases hlt : j + 1 < l.length
  · have hd : decide (((j + 1 : Nat) : Int) < (l.length : Int)) = true := by simp; omega
    repeat (first
      | (refine t_skG rfl (by decide) rfl ?_)
      | (refine t_skU rfl (by decide) rfl ?_)
      | (first | refine t_rdG (by decide) rfl (by decide) rfl (fun K hK => ?_) | refine t_rd (by decide) (fun K hK => ?_)
         simp only [Xa, Xb, Xc, Xd, Xe, Xf, Xg, Xh, Xi, Xj, Xk, Xl, Xm, Xn, Xo, Xp, Xq, Xr, Xs, Xt, Xu, Xv, Xw, Xx, Xy, Xz, XA, XB, XD, XE, XF, XG, XH, XI, ev, XJ, upd, args1, args2, args3, args4, XK, XL, XM, extL, XN, XO, XP, XQ, XR, XT, XU, XV, XW, XX, XY, XZ, X0, X1, X2, X3, Addr.add, ↓reduceIte, Nat.reduceLT, Nat.reduceEqDiff, Nat.zero_add, Nat.reduceAdd, Option.map_some, X4, List.getElem_toArray, List.getElem_cons_zero, List.getElem_cons_succ, hf0, hf3, hl, hd]
         refine hK _ ?_
         clear hK K))
    refine t_done ?_
    refine t_true rfl ?_
    refine t_skip ?_
    refine t_seq ?_
    refine t_block ?_
    refine t_seq ?_
    obtain ⟨A, hA⟩ := hv1.at (List.getElem?_eq_getElem (show j < l.length by omega))
    obtain ⟨B, hB⟩ := hv1.at (List.getElem?_eq_getElem hlt)
    have iA := hA.idx
    have iB := hB.idx
    have lA := hA.whole
    have lB := hB.whole
    refine t_drawn rfl (by decide) ?_
    repeat (first
      | (refine d_skG rfl (by decide) rfl ?_)
      | (refine d_skU rfl (by decide) rfl ?_)
      | (first | refine d_rdG rfl (by decide) rfl (fun K hK => ?_) | refine d_rd (fun K hK => ?_)
         simp only [Xa, Xb, Xc, Xd, Xe, Xf, Xg, Xh, Xi, Xj, Xk, Xl, Xm, Xn, Xo, Xp, Xq, Xr, Xs, Xt, Xu, Xv, Xw, Xx, Xy, Xz, XA, XB, XD, XE, XF, XG, XH, XI, ev, XJ, upd, args1, args2, args3, args4, XK, XL, XM, extL, XN, XO, XP, XQ, XR, XT, XU, XV, XW, XX, XY, XZ, X0, X1, X2, X3, Addr.add, ↓reduceIte, Nat.reduceLT, Nat.reduceEqDiff, Nat.zero_add, Nat.reduceAdd, Option.map_some, X4, List.getElem_toArray, List.getElem_cons_zero, List.getElem_cons_succ, hf0, hf3, hw1, iA, iB, lA, lB]
         refine hK _ ?_
         clear hK K))
    refine d_call0 (v := .bool (bef l[j] l[j + 1])) (vals := #[l[j].v, l[j + 1].v]) (by decide) rfl rfl Try.func15 rfl rfl (by simp only [List.map_toArray, List.map_cons, List.map_nil, Xa, Xb, Xc, Xd, Xe, Xf, Xg, Xh, Xi, Xj, Xk, Xl, Xm, Xn, Xo, Xp, Xq, Xr, Xs, Xt, Xu, Xv, Xw, Xx, Xy, Xz, XA, XB, XD, XE, XF, XG, XH, XI, ev, XJ, upd, args1, args2, args3, args4, XK, XL, XM, extL, XN, XO, XP, XQ, XR, XT, XU, XV, XW, XX, XY, XZ, X0, X1, X2, X3, Addr.add, ↓reduceIte, Nat.reduceLT, Nat.reduceEqDiff, Nat.zero_add, Nat.reduceAdd, Option.map_some, X4, List.getElem_toArray, List.getElem_cons_zero, List.getElem_cons_succ]) ?_ ?_
    · intro c2 O2 w2 r2 h2
      exact Before_M l[j] l[j + 1] O2 w2 c2 _ h2
    ·
      repeat (first
        | (refine d_skG rfl (by decide) rfl ?_)
        | (refine d_skU rfl (by decide) rfl ?_)
        | (first | refine d_rdG rfl (by decide) rfl (fun K hK => ?_) | refine d_rd (fun K hK => ?_)
           simp only [Xa, Xb, Xc, Xd, Xe, Xf, Xg, Xh, Xi, Xj, Xk, Xl, Xm, Xn, Xo, Xp, Xq, Xr, Xs, Xt, Xu, Xv, Xw, Xx, Xy, Xz, XA, XB, XD, XE, XF, XG, XH, XI, ev, XJ, upd, args1, args2, args3, args4, XK, XL, XM, extL, XN, XO, XP, XQ, XR, XT, XU, XV, XW, XX, XY, XZ, X0, X1, X2, X3, Addr.add, ↓reduceIte, Nat.reduceLT, Nat.reduceEqDiff, Nat.zero_add, Nat.reduceAdd, Option.map_some, X4, List.getElem_toArray, List.getElem_cons_zero, List.getElem_cons_succ]
           refine hK _ ?_
           clear hK K))
      refine d_done ?_
      intro O2 w2 r2
      cases hb : bef l[j] l[j + 1] with
      | false =>
        refine t_true (by simp only [Xa, Xb, Xc, Xd, Xe, Xf, Xg, Xh, Xi, Xj, Xk, Xl, Xm, Xn, Xo, Xp, Xq, Xr, Xs, Xt, Xu, Xv, Xw, Xx, Xy, Xz, XA, XB, XD, XE, XF, XG, XH, XI, ev, XJ, upd, args1, args2, args3, args4, XK, XL, XM, extL, XN, XO, XP, XQ, XR, XT, XU, XV, XW, XX, XY, XZ, X0, X1, X2, X3, Addr.add, ↓reduceIte, Nat.reduceLT, Nat.reduceEqDiff, Nat.zero_add, Nat.reduceAdd, Option.map_some, X4, List.getElem_toArray, List.getElem_cons_zero, List.getElem_cons_succ, hb]; rfl) ?_
        refine t_seq ?_
        refine t_region ?_
        repeat (first
          | (refine t_skG rfl (by decide) rfl ?_)
          | (refine t_skU rfl (by decide) rfl ?_)
          | (first | refine t_rdG (by decide) rfl (by decide) rfl (fun K hK => ?_) | refine t_rd (by decide) (fun K hK => ?_)
             simp only [Xa, Xb, Xc, Xd, Xe, Xf, Xg, Xh, Xi, Xj, Xk, Xl, Xm, Xn, Xo, Xp, Xq, Xr, Xs, Xt, Xu, Xv, Xw, Xx, Xy, Xz, XA, XB, XD, XE, XF, XG, XH, XI, ev, XJ, upd, args1, args2, args3, args4, XK, XL, XM, extL, XN, XO, XP, XQ, XR, XT, XU, XV, XW, XX, XY, XZ, X0, X1, X2, X3, Addr.add, ↓reduceIte, Nat.reduceLT, Nat.reduceEqDiff, Nat.zero_add, Nat.reduceAdd, Option.map_some, X4, List.getElem_toArray, List.getElem_cons_zero, List.getElem_cons_succ]
             refine hK _ ?_
             clear hK K))
        refine t_done ?_
        refine t_ret ?_
        refine t_leave1 rfl Try.func19 Try.results19 ?_
        have := h O2 w2 (r1.trans r2)
        rw [ordL_false (List.getElem?_eq_getElem (show j < l.length by omega)) (List.getElem?_eq_getElem hlt) hb] at this
        exact this
      | true =>
        refine t_false (by simp only [Xa, Xb, Xc, Xd, Xe, Xf, Xg, Xh, Xi, Xj, Xk, Xl, Xm, Xn, Xo, Xp, Xq, Xr, Xs, Xt, Xu, Xv, Xw, Xx, Xy, Xz, XA, XB, XD, XE, XF, XG, XH, XI, ev, XJ, upd, args1, args2, args3, args4, XK, XL, XM, extL, XN, XO, XP, XQ, XR, XT, XU, XV, XW, XX, XY, XZ, X0, X1, X2, X3, Addr.add, ↓reduceIte, Nat.reduceLT, Nat.reduceEqDiff, Nat.zero_add, Nat.reduceAdd, Option.map_some, X4, List.getElem_toArray, List.getElem_cons_zero, List.getElem_cons_succ, hb]; rfl) ?_
        refine t_skip ?_
        refine t_inBlock ?_
        refine t_region ?_
        repeat (first
          | (refine t_skG rfl (by decide) rfl ?_)
          | (refine t_skU rfl (by decide) rfl ?_)
          | (first | refine t_rdG (by decide) rfl (by decide) rfl (fun K hK => ?_) | refine t_rd (by decide) (fun K hK => ?_)
             simp only [Xa, Xb, Xc, Xd, Xe, Xf, Xg, Xh, Xi, Xj, Xk, Xl, Xm, Xn, Xo, Xp, Xq, Xr, Xs, Xt, Xu, Xv, Xw, Xx, Xy, Xz, XA, XB, XD, XE, XF, XG, XH, XI, ev, XJ, upd, args1, args2, args3, args4, XK, XL, XM, extL, XN, XO, XP, XQ, XR, XT, XU, XV, XW, XX, XY, XZ, X0, X1, X2, X3, Addr.add, ↓reduceIte, Nat.reduceLT, Nat.reduceEqDiff, Nat.zero_add, Nat.reduceAdd, Option.map_some, X4, List.getElem_toArray, List.getElem_cons_zero, List.getElem_cons_succ, hf3, hw2]
             refine hK _ ?_
             clear hK K))
        refine t_done ?_
        refine t_inLoop ?_
        refine ih (l.length - (j + 1)) _ O2 w2 (by omega) ⟨r1.trans r2, hf0, j + 1, rfl, rfl, by omega, fun i a b hi ha hb' => ?_⟩
        by_cases e : i = j
        · subst e
          rw [List.getElem?_eq_getElem (by omega)] at ha
          rw [List.getElem?_eq_getElem (by omega)] at hb'
          cases ha; cases hb'; exact hb
        · exact hall i a b (by omega) ha hb'
  · have hd : decide (((j + 1 : Nat) : Int) < (l.length : Int)) = false := by simp; omega
    repeat (first
      | (refine t_skG rfl (by decide) rfl ?_)
      | (refine t_skU rfl (by decide) rfl ?_)
      | (first | refine t_rdG (by decide) rfl (by decide) rfl (fun K hK => ?_) | refine t_rd (by decide) (fun K hK => ?_)
         simp only [Xa, Xb, Xc, Xd, Xe, Xf, Xg, Xh, Xi, Xj, Xk, Xl, Xm, Xn, Xo, Xp, Xq, Xr, Xs, Xt, Xu, Xv, Xw, Xx, Xy, Xz, XA, XB, XD, XE, XF, XG, XH, XI, ev, XJ, upd, args1, args2, args3, args4, XK, XL, XM, extL, XN, XO, XP, XQ, XR, XT, XU, XV, XW, XX, XY, XZ, X0, X1, X2, X3, Addr.add, ↓reduceIte, Nat.reduceLT, Nat.reduceEqDiff, Nat.zero_add, Nat.reduceAdd, Option.map_some, X4, List.getElem_toArray, List.getElem_cons_zero, List.getElem_cons_succ, hf0, hf3, hl, hd]
         refine hK _ ?_
         clear hK K))
    refine t_done ?_
    refine t_false rfl ?_
    refine t_exit rfl ?_
    refine t_seq ?_
    refine t_region ?_
    repeat (first
      | (refine t_skG rfl (by decide) rfl ?_)
      | (refine t_skU rfl (by decide) rfl ?_)
      | (first | refine t_rdG (by decide) rfl (by decide) rfl (fun K hK => ?_) | refine t_rd (by decide) (fun K hK => ?_)
         simp only [Xa, Xb, Xc, Xd, Xe, Xf, Xg, Xh, Xi, Xj, Xk, Xl, Xm, Xn, Xo, Xp, Xq, Xr, Xs, Xt, Xu, Xv, Xw, Xx, Xy, Xz, XA, XB, XD, XE, XF, XG, XH, XI, ev, XJ, upd, args1, args2, args3, args4, XK, XL, XM, extL, XN, XO, XP, XQ, XR, XT, XU, XV, XW, XX, XY, XZ, X0, X1, X2, X3, Addr.add, ↓reduceIte, Nat.reduceLT, Nat.reduceEqDiff, Nat.zero_add, Nat.reduceAdd, Option.map_some, X4, List.getElem_toArray, List.getElem_cons_zero, List.getElem_cons_succ]
         refine hK _ ?_
         clear hK K))
    refine t_done ?_
    refine t_ret ?_
    refine t_leave1 rfl Try.func19 Try.results19 ?_
    have := h O1 w1 r1
    rw [ordL_true fun i a b ha hb => hall i a b (by have := (List.getElem?_eq_some_iff.1 hb).1; omega) ha hb] at this
    exact this

theorem bytes_eq {a b : ByteArray} : a.toList = b.toList ↔ a = b := by
  rw [ByteArray.toList_eq, ByteArray.toList_eq]
  obtain ⟨⟨x⟩⟩ := a
  obtain ⟨⟨y⟩⟩ := b
  simp
theorem entEq_iff {a b : Ent} : entEq a b = true ↔ a = b := by
  unfold entEq
  obtain ⟨k, s, d, v⟩ := a
  obtain ⟨k', s', d', v'⟩ := b
  simp [bytes_eq]
/-- Are the lists the same? -/
noncomputable def sameL {α : Type} (a b : List α) : Bool := open Classical in decide (a = b)
theorem sameL_true {α : Type} {a b : List α} (hl : a.length = b.length) (h : ∀ (i : Nat) (x y : α), a[i]? = some x → b[i]? = some y → x = y) : sameL a b = true := by
  unfold sameL
  simp only [decide_eq_true_eq]
  apply List.ext_getElem hl
  intro i h1 h2
  exact h i _ _ (List.getElem?_eq_getElem h1) (List.getElem?_eq_getElem h2)
theorem sameL_false {α : Type} {a b : List α} (h : a.length ≠ b.length ∨ ∃ (i : Nat) (x y : α), a[i]? = some x ∧ b[i]? = some y ∧ x ≠ y) : sameL a b = false := by
  unfold sameL
  simp only [decide_eq_false_iff_not]
  rintro rfl
  rcases h with h | ⟨i, x, y, h1, h2, h3⟩
  · exact h rfl
  · rw [h1] at h2; exact h3 (Option.some.inj h2)

set_option maxHeartbeats 4000000 in
theorem Same_M {x : Th} {St : Gh → Goroutine → World → Prop} (l l' : List Ent) (v v' : Value) (O : Gh) (w : World) (c : Frame) (cs : List Frame) (hv : SlE (ldOf x O w) v l) (hv' : SlE (ldOf x O w) v' l') (hlen : l.length < 1000000)
    (h : ∀ O' w', Rel x O w O' w' → Tree P x St O' (G (c.finish (.bool (sameL l l'))) cs) w') :
    Tree P x St O (G (Frame.enter P 14 #[v, v'] .normal) (c :: cs)) w := by
  rw [enter2 _ _ Try.func14 rfl Try.ntmps14 (by decide)]
  have hl := hv.len
  have hl' := hv'.len
  refine t_seq ?_
  refine t_region ?_
  repeat (first
    | (refine t_skG rfl (by decide) rfl ?_)
    | (refine t_skU rfl (by decide) rfl ?_)
    | (first | refine t_rdG (by decide) rfl (by decide) rfl (fun K hK => ?_) | refine t_rd (by decide) (fun K hK => ?_)
       simp only [Xa, Xb, Xc, Xd, Xe, Xf, Xg, Xh, Xi, Xj, Xk, Xl, Xm, Xn, Xo, Xp, Xq, Xr, Xs, Xt, Xu, Xv, Xw, Xx, Xy, Xz, XA, XB, XD, XE, XF, XG, XH, XI, ev, XJ, upd, args1, args2, args3, args4, XK, XL, XM, extL, XN, XO, XP, XQ, XR, XT, XU, XV, XW, XX, XY, XZ, X0, X1, X2, X3, Addr.add, ↓reduceIte, Nat.reduceLT, Nat.reduceEqDiff, Nat.zero_add, Nat.reduceAdd, Option.map_some, X4, List.getElem_toArray, List.getElem_cons_zero, List.getElem_cons_succ]
       refine hK _ ?_
       clear hK K))
  refine t_done ?_
  refine t_seq ?_
  refine t_seq ?_
  refine t_region ?_
  by_cases he : l.length = l'.length
  · have hd : (((l.length : Nat) : Int) != ((l'.length : Nat) : Int)) = false := by simp [he]
    repeat (first
      | (refine t_skG rfl (by decide) rfl ?_)
      | (refine t_skU rfl (by decide) rfl ?_)
      | (first | refine t_rdG (by decide) rfl (by decide) rfl (fun K hK => ?_) | refine t_rd (by decide) (fun K hK => ?_)
         simp only [Xa, Xb, Xc, Xd, Xe, Xf, Xg, Xh, Xi, Xj, Xk, Xl, Xm, Xn, Xo, Xp, Xq, Xr, Xs, Xt, Xu, Xv, Xw, Xx, Xy, Xz, XA, XB, XD, XE, XF, XG, XH, XI, ev, XJ, upd, args1, args2, args3, args4, XK, XL, XM, extL, XN, XO, XP, XQ, XR, XT, XU, XV, XW, XX, XY, XZ, X0, X1, X2, X3, Addr.add, ↓reduceIte, Nat.reduceLT, Nat.reduceEqDiff, Nat.zero_add, Nat.reduceAdd, Option.map_some, X4, List.getElem_toArray, List.getElem_cons_zero, List.getElem_cons_succ, hl, hl', hd]
         refine hK _ ?_
         clear hK K))
    refine t_done ?_
    refine t_false rfl ?_
    refine t_skip ?_
    refine t_seq ?_
    refine t_seq ?_
    refine t_region ?_
    repeat (first
      | (refine t_skG rfl (by decide) rfl ?_)
      | (refine t_skU rfl (by decide) rfl ?_)
      | (first | refine t_rdG (by decide) rfl (by decide) rfl (fun K hK => ?_) | refine t_rd (by decide) (fun K hK => ?_)
         simp only [Xa, Xb, Xc, Xd, Xe, Xf, Xg, Xh, Xi, Xj, Xk, Xl, Xm, Xn, Xo, Xp, Xq, Xr, Xs, Xt, Xu, Xv, Xw, Xx, Xy, Xz, XA, XB, XD, XE, XF, XG, XH, XI, ev, XJ, upd, args1, args2, args3, args4, XK, XL, XM, extL, XN, XO, XP, XQ, XR, XT, XU, XV, XW, XX, XY, XZ, X0, X1, X2, X3, Addr.add, ↓reduceIte, Nat.reduceLT, Nat.reduceEqDiff, Nat.zero_add, Nat.reduceAdd, Option.map_some, X4, List.getElem_toArray, List.getElem_cons_zero, List.getElem_cons_succ, hl]
         refine hK _ ?_
         clear hK K))
    refine t_done ?_
    refine t_block ?_
    refine t_loop ?_
    refine t_while (fun m f O' w' => Rel x O w O' w' ∧ f 0 = v ∧ f 1 = v' ∧ f 12 = .int .i64 (l.length : Int) ∧ ∃ j : Nat, f 13 = .int .i64 (j : Int) ∧ m = l.length - j ∧ j ≤ l.length ∧ ∀ (i : Nat) (a b : Ent), i < j → l[i]? = some a → l'[i]? = some b → a = b)
      l.length ⟨Rel.refl x O w, rfl, rfl, rfl, 0, rfl, rfl, Nat.zero_le _, fun i a b hi => by omega⟩ ?_
    rintro m f O1 w1 ⟨r1, hf0, hf1, hf12, j, hf13, hm, hj, hall⟩ ih
    have hv1 := hv.rely r1
    have hv1' := hv'.rely r1
    have hw2 : IntKind.i64.wrap ((j : Int) + 1) = ((j + 1 : Nat) : Int) := by rw [wrap64] <;> omega
    refine t_seq ?_
    refine t_region ?_
    by_cases hlt : j < l.length
    · have hd : decide ((j : Int) < (l.length : Int)) = true := by simp; omega
      repeat (first
        | (refine t_skG rfl (by decide) rfl ?_)
        | (refine t_skU rfl (by decide) rfl ?_)
        | (first | refine t_rdG (by decide) rfl (by decide) rfl (fun K hK => ?_) | refine t_rd (by decide) (fun K hK => ?_)
           simp only [Xa, Xb, Xc, Xd, Xe, Xf, Xg, Xh, Xi, Xj, Xk, Xl, Xm, Xn, Xo, Xp, Xq, Xr, Xs, Xt, Xu, Xv, Xw, Xx, Xy, Xz, XA, XB, XD, XE, XF, XG, XH, XI, ev, XJ, upd, args1, args2, args3, args4, XK, XL, XM, extL, XN, XO, XP, XQ, XR, XT, XU, XV, XW, XX, XY, XZ, X0, X1, X2, X3, Addr.add, ↓reduceIte, Nat.reduceLT, Nat.reduceEqDiff, Nat.zero_add, Nat.reduceAdd, Option.map_some, X4, List.getElem_toArray, List.getElem_cons_zero, List.getElem_cons_succ, hf12, hf13, hd]
           refine hK _ ?_
           clear hK K))
      refine t_done ?_
      refine t_seq ?_
      refine t_true rfl ?_
      refine t_skip ?_
      refine t_seq ?_
      refine t_block ?_
      refine t_seq ?_
      refine t_region ?_
      repeat (first
        | (refine t_skG rfl (by decide) rfl ?_)
        | (refine t_skU rfl (by decide) rfl ?_)
        | (first | refine t_rdG (by decide) rfl (by decide) rfl (fun K hK => ?_) | refine t_rd (by decide) (fun K hK => ?_)
           simp only [Xa, Xb, Xc, Xd, Xe, Xf, Xg, Xh, Xi, Xj, Xk, Xl, Xm, Xn, Xo, Xp, Xq, Xr, Xs, Xt, Xu, Xv, Xw, Xx, Xy, Xz, XA, XB, XD, XE, XF, XG, XH, XI, ev, XJ, upd, args1, args2, args3, args4, XK, XL, XM, extL, XN, XO, XP, XQ, XR, XT, XU, XV, XW, XX, XY, XZ, X0, X1, X2, X3, Addr.add, ↓reduceIte, Nat.reduceLT, Nat.reduceEqDiff, Nat.zero_add, Nat.reduceAdd, Option.map_some, X4, List.getElem_toArray, List.getElem_cons_zero, List.getElem_cons_succ, hf13]
           refine hK _ ?_
           clear hK K))
      refine t_done ?_
      refine t_seq ?_
      obtain ⟨A, hA⟩ := hv1.at (List.getElem?_eq_getElem hlt)
      obtain ⟨B, hB⟩ := hv1'.at (List.getElem?_eq_getElem (show j < l'.length by omega))
      have iA := hA.idx
      have iB := hB.idx
      have lA := hA.whole
      have lB := hB.whole
      refine t_drawn rfl (by decide) ?_
      repeat (first
        | (refine d_skG rfl (by decide) rfl ?_)
        | (refine d_skU rfl (by decide) rfl ?_)
        | (first | refine d_rdG rfl (by decide) rfl (fun K hK => ?_) | refine d_rd (fun K hK => ?_)
           simp only [Xa, Xb, Xc, Xd, Xe, Xf, Xg, Xh, Xi, Xj, Xk, Xl, Xm, Xn, Xo, Xp, Xq, Xr, Xs, Xt, Xu, Xv, Xw, Xx, Xy, Xz, XA, XB, XD, XE, XF, XG, XH, XI, ev, XJ, upd, args1, args2, args3, args4, XK, XL, XM, extL, XN, XO, XP, XQ, XR, XT, XU, XV, XW, XX, XY, XZ, X0, X1, X2, X3, Addr.add, ↓reduceIte, Nat.reduceLT, Nat.reduceEqDiff, Nat.zero_add, Nat.reduceAdd, Option.map_some, X4, List.getElem_toArray, List.getElem_cons_zero, List.getElem_cons_succ, hf0, hf1, iA, iB, lA, lB]
           refine hK _ ?_
           clear hK K))
      refine d_done ?_
      intro O2 w2 r2
      by_cases hb : l[j] = l'[j]
      · have hb' : entEq l[j] l'[j] = true := entEq_iff.2 hb
        refine t_false (by simp only [Xa, Xb, Xc, Xd, Xe, Xf, Xg, Xh, Xi, Xj, Xk, Xl, Xm, Xn, Xo, Xp, Xq, Xr, Xs, Xt, Xu, Xv, Xw, Xx, Xy, Xz, XA, XB, XD, XE, XF, XG, XH, XI, ev, XJ, upd, args1, args2, args3, args4, XK, XL, XM, extL, XN, XO, XP, XQ, XR, XT, XU, XV, XW, XX, XY, XZ, X0, X1, X2, X3, Addr.add, ↓reduceIte, Nat.reduceLT, Nat.reduceEqDiff, Nat.zero_add, Nat.reduceAdd, Option.map_some, X4, List.getElem_toArray, List.getElem_cons_zero, List.getElem_cons_succ, hb']; rfl) ?_
        refine t_skip ?_
        refine t_inBlock ?_
        refine t_region ?_
        repeat (first
          | (refine t_skG rfl (by decide) rfl ?_)
          | (refine t_skU rfl (by decide) rfl ?_)
          | (first | refine t_rdG (by decide) rfl (by decide) rfl (fun K hK => ?_) | refine t_rd (by decide) (fun K hK => ?_)
             simp only [Xa, Xb, Xc, Xd, Xe, Xf, Xg, Xh, Xi, Xj, Xk, Xl, Xm, Xn, Xo, Xp, Xq, Xr, Xs, Xt, Xu, Xv, Xw, Xx, Xy, Xz, XA, XB, XD, XE, XF, XG, XH, XI, ev, XJ, upd, args1, args2, args3, args4, XK, XL, XM, extL, XN, XO, XP, XQ, XR, XT, XU, XV, XW, XX, XY, XZ, X0, X1, X2, X3, Addr.add, ↓reduceIte, Nat.reduceLT, Nat.reduceEqDiff, Nat.zero_add, Nat.reduceAdd, Option.map_some, X4, List.getElem_toArray, List.getElem_cons_zero, List.getElem_cons_succ, hf13, hw2]
             refine hK _ ?_
             clear hK K))
        refine t_done ?_
        refine t_inLoop ?_
        refine ih (l.length - (j + 1)) _ O2 w2 (by omega) ⟨r1.trans r2, hf0, hf1, hf12, j + 1, rfl, rfl, by omega, fun i a b hi ha hb2 => ?_⟩
        by_cases e : i = j
        · subst e
          rw [List.getElem?_eq_getElem (by omega)] at ha
          rw [List.getElem?_eq_getElem (by omega)] at hb2
          cases ha; cases hb2; exact hb
        · exact hall i a b (by omega) ha hb2
      · have hb' : entEq l[j] l'[j] = false := by
          cases hq : entEq l[j] l'[j] with
          | false => rfl
          | true => exact absurd (entEq_iff.1 hq) hb
        refine t_true (by simp only [Xa, Xb, Xc, Xd, Xe, Xf, Xg, Xh, Xi, Xj, Xk, Xl, Xm, Xn, Xo, Xp, Xq, Xr, Xs, Xt, Xu, Xv, Xw, Xx, Xy, Xz, XA, XB, XD, XE, XF, XG, XH, XI, ev, XJ, upd, args1, args2, args3, args4, XK, XL, XM, extL, XN, XO, XP, XQ, XR, XT, XU, XV, XW, XX, XY, XZ, X0, X1, X2, X3, Addr.add, ↓reduceIte, Nat.reduceLT, Nat.reduceEqDiff, Nat.zero_add, Nat.reduceAdd, Option.map_some, X4, List.getElem_toArray, List.getElem_cons_zero, List.getElem_cons_succ, hb']; rfl) ?_
        refine t_seq ?_
        refine t_region ?_
        repeat (first
          | (refine t_skG rfl (by decide) rfl ?_)
          | (refine t_skU rfl (by decide) rfl ?_)
          | (first | refine t_rdG (by decide) rfl (by decide) rfl (fun K hK => ?_) | refine t_rd (by decide) (fun K hK => ?_)
             simp only [Xa, Xb, Xc, Xd, Xe, Xf, Xg, Xh, Xi, Xj, Xk, Xl, Xm, Xn, Xo, Xp, Xq, Xr, Xs, Xt, Xu, Xv, Xw, Xx, Xy, Xz, XA, XB, XD, XE, XF, XG, XH, XI, ev, XJ, upd, args1, args2, args3, args4, XK, XL, XM, extL, XN, XO, XP, XQ, XR, XT, XU, XV, XW, XX, XY, XZ, X0, X1, X2, X3, Addr.add, ↓reduceIte, Nat.reduceLT, Nat.reduceEqDiff, Nat.zero_add, Nat.reduceAdd, Option.map_some, X4, List.getElem_toArray, List.getElem_cons_zero, List.getElem_cons_succ]
             refine hK _ ?_
             clear hK K))
        refine t_done ?_
        refine t_ret ?_
        refine t_leave1 rfl Try.func14 Try.results14 ?_
        have := h O2 w2 (r1.trans r2)
        rw [sameL_false (.inr ⟨j, _, _, List.getElem?_eq_getElem hlt, List.getElem?_eq_getElem (by omega), hb⟩)] at this
        exact this
    · have hd : decide ((j : Int) < (l.length : Int)) = false := by simp; omega
      repeat (first
        | (refine t_skG rfl (by decide) rfl ?_)
        | (refine t_skU rfl (by decide) rfl ?_)
        | (first | refine t_rdG (by decide) rfl (by decide) rfl (fun K hK => ?_) | refine t_rd (by decide) (fun K hK => ?_)
           simp only [Xa, Xb, Xc, Xd, Xe, Xf, Xg, Xh, Xi, Xj, Xk, Xl, Xm, Xn, Xo, Xp, Xq, Xr, Xs, Xt, Xu, Xv, Xw, Xx, Xy, Xz, XA, XB, XD, XE, XF, XG, XH, XI, ev, XJ, upd, args1, args2, args3, args4, XK, XL, XM, extL, XN, XO, XP, XQ, XR, XT, XU, XV, XW, XX, XY, XZ, X0, X1, X2, X3, Addr.add, ↓reduceIte, Nat.reduceLT, Nat.reduceEqDiff, Nat.zero_add, Nat.reduceAdd, Option.map_some, X4, List.getElem_toArray, List.getElem_cons_zero, List.getElem_cons_succ, hf12, hf13, hd]
           refine hK _ ?_
           clear hK K))
      refine t_done ?_
      refine t_seq ?_
      refine t_false rfl ?_
      refine t_exit rfl ?_
      refine t_seq ?_
      refine t_region ?_
      repeat (first
        | (refine t_skG rfl (by decide) rfl ?_)
        | (refine t_skU rfl (by decide) rfl ?_)
        | (first | refine t_rdG (by decide) rfl (by decide) rfl (fun K hK => ?_) | refine t_rd (by decide) (fun K hK => ?_)
           simp only [Xa, Xb, Xc, Xd, Xe, Xf, Xg, Xh, Xi, Xj, Xk, Xl, Xm, Xn, Xo, Xp, Xq, Xr, Xs, Xt, Xu, Xv, Xw, Xx, Xy, Xz, XA, XB, XD, XE, XF, XG, XH, XI, ev, XJ, upd, args1, args2, args3, args4, XK, XL, XM, extL, XN, XO, XP, XQ, XR, XT, XU, XV, XW, XX, XY, XZ, X0, X1, X2, X3, Addr.add, ↓reduceIte, Nat.reduceLT, Nat.reduceEqDiff, Nat.zero_add, Nat.reduceAdd, Option.map_some, X4, List.getElem_toArray, List.getElem_cons_zero, List.getElem_cons_succ]
           refine hK _ ?_
           clear hK K))
      refine t_done ?_
      refine t_ret ?_
      refine t_leave1 rfl Try.func14 Try.results14 ?_
      have := h O1 w1 r1
      rw [sameL_true he fun i a b ha hb => hall i a b (by have := (List.getElem?_eq_some_iff.1 ha).1; omega) ha hb] at this
      exact this
  · have hd : (((l.length : Nat) : Int) != ((l'.length : Nat) : Int)) = true := by simp; omega
    repeat (first
      | (refine t_skG rfl (by decide) rfl ?_)
      | (refine t_skU rfl (by decide) rfl ?_)
      | (first | refine t_rdG (by decide) rfl (by decide) rfl (fun K hK => ?_) | refine t_rd (by decide) (fun K hK => ?_)
         simp only [Xa, Xb, Xc, Xd, Xe, Xf, Xg, Xh, Xi, Xj, Xk, Xl, Xm, Xn, Xo, Xp, Xq, Xr, Xs, Xt, Xu, Xv, Xw, Xx, Xy, Xz, XA, XB, XD, XE, XF, XG, XH, XI, ev, XJ, upd, args1, args2, args3, args4, XK, XL, XM, extL, XN, XO, XP, XQ, XR, XT, XU, XV, XW, XX, XY, XZ, X0, X1, X2, X3, Addr.add, ↓reduceIte, Nat.reduceLT, Nat.reduceEqDiff, Nat.zero_add, Nat.reduceAdd, Option.map_some, X4, List.getElem_toArray, List.getElem_cons_zero, List.getElem_cons_succ, hl, hl', hd]
         refine hK _ ?_
         clear hK K))
    refine t_done ?_
    refine t_true rfl ?_
    refine t_seq ?_
    refine t_region ?_
    repeat (first
      | (refine t_skG rfl (by decide) rfl ?_)
      | (refine t_skU rfl (by decide) rfl ?_)
      | (first | refine t_rdG (by decide) rfl (by decide) rfl (fun K hK => ?_) | refine t_rd (by decide) (fun K hK => ?_)
         simp only [Xa, Xb, Xc, Xd, Xe, Xf, Xg, Xh, Xi, Xj, Xk, Xl, Xm, Xn, Xo, Xp, Xq, Xr, Xs, Xt, Xu, Xv, Xw, Xx, Xy, Xz, XA, XB, XD, XE, XF, XG, XH, XI, ev, XJ, upd, args1, args2, args3, args4, XK, XL, XM, extL, XN, XO, XP, XQ, XR, XT, XU, XV, XW, XX, XY, XZ, X0, X1, X2, X3, Addr.add, ↓reduceIte, Nat.reduceLT, Nat.reduceEqDiff, Nat.zero_add, Nat.reduceAdd, Option.map_some, X4, List.getElem_toArray, List.getElem_cons_zero, List.getElem_cons_succ]
         refine hK _ ?_
         clear hK K))
    refine t_done ?_
    refine t_ret ?_
    refine t_leave1 rfl Try.func14 Try.results14 ?_
    have := h O w (Rel.refl x O w)
    rw [sameL_false (.inl he)] at this
    exact this
end Go.Proofs.Ytdajdembeacefaa.M

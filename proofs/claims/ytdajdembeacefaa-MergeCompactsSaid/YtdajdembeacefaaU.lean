/-
  Contracts of functions that only read, in the calculus, 2.
-/
import Derived.Test.YtdajdembeacefaaS
set_option linter.unusedSimpArgs false
set_option linter.unusedVariables false
namespace Go.Proofs.Ytdajdembeacefaa.M
open Go.Conc

def SlP (L : Addr → Option Value) (v : Value) (l : List Pr) : Prop := Sl 2 L v (l.map Pr.cells)
theorem SlP.len {L : Addr → Option Value} {v : Value} {l : List Pr} (h : SlP L v l) : lenL v = some (.value (.int .i64 l.length)) := by
  have := Sl.len h; rwa [List.length_map] at this
theorem SlP.rely {x : Th} {O O1 : Gh} {w w1 : World} {v : Value} {l : List Pr} (h : SlP (ldOf x O w) v l) (r : Rel x O w O1 w1) : SlP (ldOf x O1 w1) v l := Sl.rely h r
structure AtP (L : Addr → Option Value) (v : Value) (i : Nat) (e : Pr) (A : Addr) : Prop where
  idx : idxL 2 v (.int .i64 i) = some (.value (.pointer (some A)))
  whole : loadN L 2 (.pointer (some A)) = some (.value e.v)
theorem SlP.at {L : Addr → Option Value} {v : Value} {l : List Pr} (h : SlP L v l) {i : Nat} {e : Pr} (hi : l[i]? = some e) : ∃ A, AtP L v i e A := by
  have hlt := (List.getElem?_eq_some_iff.1 hi).1
  rcases h with ⟨h, _⟩ | ⟨b, o, c, rfl, hc, h⟩
  · have : l = [] := by simpa using h
    subst this; simp at hi
  · obtain ⟨_, h⟩ := h i e.cells (by rw [List.getElem?_map, hi]; rfl)
    have h0 := h 0 (by omega)
    have h1 := h 1 (by omega)
    refine ⟨⟨b, o + i * 2, none⟩, ?_, ?_⟩
    · rw [List.length_map, idxL_some 2 _ _ _ i _ hlt, add_none]
    · exact loadN2 (by rw [add_none]; exact h0) (by rw [add_none]; exact h1)
theorem prEq_iff {a b : Pr} : prEq a b = true ↔ a = b := by
  unfold prEq
  obtain ⟨k, v⟩ := a
  obtain ⟨k', v'⟩ := b
  simp [bytes_eq]

set_option maxHeartbeats 4000000 in
theorem SamePairs_M {x : Th} {St : Gh → Goroutine → World → Prop} (l l' : List Pr) (v v' : Value) (O : Gh) (w : World) (c : Frame) (cs : List Frame) (hv : SlP (ldOf x O w) v l) (hv' : SlP (ldOf x O w) v' l') (hlen : l.length < 1000000)
    (h : ∀ O' w', Rel x O w O' w' → Tree P x St O' (G (c.finish (.bool (sameL l l'))) cs) w') :
    Tree P x St O (G (Frame.enter P 20 #[v, v'] .normal) (c :: cs)) w := by
  rw [enter2 _ _ Try.func20 rfl Try.ntmps20 (by decide)]
  have hl := hv.len
  have hl' := hv'.len
  refine t_seq ?_
  refine t_region ?_
  repeat (first
    | (refine t_skG rfl (by decide) rfl ?_)
    | (refine t_skU rfl (by decide) rfl ?_)
    | (first | refine t_rdG (by decide) rfl (by decide) rfl (fun K hK => ?_) | refine t_rd (by decide) (fun K hK => ?_)
       simp only [Xa, Xb, Xc, Xd, Xe, Xf, Xg, Xh, Xi, Xj, Xk, Xl, Xm, Xn, Xo, Xp, Xq, Xr, Xs, Xt, Xu, Xv, Xw, Xx, Xy, Xz, XA, XB, XD, XE, XF, XG, XH, XI, ev, XJ, upd, args1, args2, args3, args4, XK, XL, XM, extL, XN, XO, XP, XQ, XR, XT, XU, XV, XW, XX, XY, XZ, X0, X1, X2, X3, Addr.add, ↓reduceIte, Nat.reduceLT, Nat.reduceEqDiff, Nat.zero_add, Nat.reduceAdd, Option.map_some, X4, List.getElem_toArray, List.getElem_cons_zero, List.getElem_cons_succ]
       refine hK _ ?_
       clear hK K))
  refine t_done ?_
  refine t_seq ?_
  refine t_seq ?_
  refine t_region ?_
  by_cases he : l.length = l'.length
  · have hd : (((l.length : Nat) : Int) != ((l'.length : Nat) : Int)) = false := by simp [he]
    repeat (first
      | (refine t_skG rfl (by decide) rfl ?_)
      | (refine t_skU rfl (by decide) rfl ?_)
      | (first | refine t_rdG (by decide) rfl (by decide) rfl (fun K hK => ?_) | refine t_rd (by decide) (fun K hK => ?_)
         simp only [Xa, Xb, Xc, Xd, Xe, Xf, Xg, Xh, Xi, Xj, Xk, Xl, Xm, Xn, Xo, Xp, Xq, Xr, Xs, Xt, Xu, Xv, Xw, Xx, Xy, Xz, XA, XB, XD, XE, XF, XG, XH, XI, ev, XJ, upd, args1, args2, args3, args4, XK, XL, XM, extL, XN, XO, XP, XQ, XR, XT, XU, XV, XW, XX, XY, XZ, X0, X1, X2, X3, Addr.add, ↓reduceIte, Nat.reduceLT, Nat.reduceEqDiff, Nat.zero_add, Nat.reduceAdd, Option.map_some, X4, List.getElem_toArray, List.getElem_cons_zero, List.getElem_cons_succ, hl, hl', hd]
         refine hK _ ?_
         clear hK K))
    refine t_done ?_
    refine t_false rfl ?_
    refine t_skip ?_
    refine t_seq ?_
    refine t_seq ?_
    refine t_region ?_
    repeat (first
      | (refine t_skG rfl (by decide) rfl ?_)
      | (refine t_skU rfl (by decide) rfl ?_)
      | (first | refine t_rdG (by decide) rfl (by decide) rfl (fun K hK => ?_) | refine t_rd (by decide) (fun K hK => ?_)
         simp only [Xa, Xb, Xc, Xd, Xe, Xf, Xg, Xh, Xi, Xj, Xk, Xl, Xm, Xn, Xo, Xp, Xq, Xr, Xs, Xt, Xu, Xv, Xw, Xx, Xy, Xz, XA, XB, XD, XE, XF, XG, XH, XI, ev, XJ, upd, args1, args2, args3, args4, XK, XL, XM, extL, XN, XO, XP, XQ, XR, XT, XU, XV, XW, XX, XY, XZ, X0, X1, X2, X3, Addr.add, ↓reduceIte, Nat.reduceLT, Nat.reduceEqDiff, Nat.zero_add, Nat.reduceAdd, Option.map_some, X4, List.getElem_toArray, List.getElem_cons_zero, List.getElem_cons_succ, hl]
         refine hK _ ?_
         clear hK K))
    refine t_done ?_
    refine t_block ?_
    refine t_loop ?_
    refine t_while (fun m f O' w' => Rel x O w O' w' ∧ f 0 = v ∧ f 1 = v' ∧ f 12 = .int .i64 (l.length : Int) ∧ ∃ j : Nat, f 13 = .int .i64 (j : Int) ∧ m = l.length - j ∧ j ≤ l.length ∧ ∀ (i : Nat) (a b : Pr), i < j → l[i]? = some a → l'[i]? = some b → a = b)
      l.length ⟨Rel.refl x O w, rfl, rfl, rfl, 0, rfl, rfl, Nat.zero_le _, fun i a b hi => by omega⟩ ?_
    rintro m f O1 w1 ⟨r1, hf0, hf1, hf12, j, hf13, hm, hj, hall⟩ ih
    have hv1 := hv.rely r1
    have hv1' := hv'.rely r1
    have hw2 : IntKind.i64.wrap ((j : Int) + 1) = ((j + 1 : Nat) : Int) := by rw [wrap64] <;> omega
    refine t_seq ?_
    refine t_region ?_
    by_cases hlt : j < l.length
    · have hd : decide ((j : Int) < (l.length : Int)) = true := by simp; omega
      repeat (first
        | (refine t_skG rfl (by decide) rfl ?_)
        | (refine t_skU rfl (by decide) rfl ?_)
        | (first | refine t_rdG (by decide) rfl (by decide) rfl (fun K hK => ?_) | refine t_rd (by decide) (fun K hK => ?_)
           simp only [Xa, Xb, Xc, Xd, Xe, Xf, Xg, Xh, Xi, Xj, Xk, Xl, Xm, Xn, Xo, Xp, Xq, Xr, Xs, Xt, Xu, Xv, Xw, Xx, Xy, Xz, XA, XB, XD, XE, XF, XG, XH, XI, ev, XJ, upd, args1, args2, args3, args4, XK, XL, XM, extL, XN, XO, XP, XQ, XR, XT, XU, XV, XW, XX, XY, XZ, X0, X1, X2, X3, Addr.add, ↓reduceIte, Nat.reduceLT, Nat.reduceEqDiff, Nat.zero_add, Nat.reduceAdd, Option.map_some, X4, List.getElem_toArray, List.getElem_cons_zero, List.getElem_cons_succ, hf12, hf13, hd]
           refine hK _ ?_
           clear hK K))
      refine t_done ?_
      refine t_seq ?_
      refine t_true rfl ?_
      refine t_skip ?_
      refine t_seq ?_
      refine t_block ?_
      refine t_seq ?_
      refine t_region ?_
      repeat (first
        | (refine t_skG rfl (by decide) rfl ?_)
        | (refine t_skU rfl (by decide) rfl ?_)
        | (first | refine t_rdG (by decide) rfl (by decide) rfl (fun K hK => ?_) | refine t_rd (by decide) (fun K hK => ?_)
           simp only [Xa, Xb, Xc, Xd, Xe, Xf, Xg, Xh, Xi, Xj, Xk, Xl, Xm, Xn, Xo, Xp, Xq, Xr, Xs, Xt, Xu, Xv, Xw, Xx, Xy, Xz, XA, XB, XD, XE, XF, XG, XH, XI, ev, XJ, upd, args1, args2, args3, args4, XK, XL, XM, extL, XN, XO, XP, XQ, XR, XT, XU, XV, XW, XX, XY, XZ, X0, X1, X2, X3, Addr.add, ↓reduceIte, Nat.reduceLT, Nat.reduceEqDiff, Nat.zero_add, Nat.reduceAdd, Option.map_some, X4, List.getElem_toArray, List.getElem_cons_zero, List.getElem_cons_succ, hf13]
           refine hK _ ?_
           clear hK K))
      refine t_done ?_
      refine t_seq ?_
      obtain ⟨A, hA⟩ := hv1.at (List.getElem?_eq_getElem hlt)
      obtain ⟨B, hB⟩ := hv1'.at (List.getElem?_eq_getElem (show j < l'.length by omega))
      have iA := hA.idx
      have iB := hB.idx
      have lA := hA.whole
      have lB := hB.whole
      refine t_drawn rfl (by decide) ?_
      repeat (first
        | (refine d_skG rfl (by decide) rfl ?_)
        | (refine d_skU rfl (by decide) rfl ?_)
        | (first | refine d_rdG rfl (by decide) rfl (fun K hK => ?_) | refine d_rd (fun K hK => ?_)
           simp only [Xa, Xb, Xc, Xd, Xe, Xf, Xg, Xh, Xi, Xj, Xk, Xl, Xm, Xn, Xo, Xp, Xq, Xr, Xs, Xt, Xu, Xv, Xw, Xx, Xy, Xz, XA, XB, XD, XE, XF, XG, XH, XI, ev, XJ, upd, args1, args2, args3, args4, XK, XL, XM, extL, XN, XO, XP, XQ, XR, XT, XU, XV, XW, XX, XY, XZ, X0, X1, X2, X3, Addr.add, ↓reduceIte, Nat.reduceLT, Nat.reduceEqDiff, Nat.zero_add, Nat.reduceAdd, Option.map_some, X4, List.getElem_toArray, List.getElem_cons_zero, List.getElem_cons_succ, hf0, hf1, iA, iB, lA, lB]
           refine hK _ ?_
           clear hK K))
      refine d_done ?_
      intro O2 w2 r2
      by_cases hb : l[j] = l'[j]
      · have hb' : prEq l[j] l'[j] = true := prEq_iff.2 hb
        refine t_false (by simp only [Xa, Xb, Xc, Xd, Xe, Xf, Xg, Xh, Xi, Xj, Xk, Xl, Xm, Xn, Xo, Xp, Xq, Xr, Xs, Xt, Xu, Xv, Xw, Xx, Xy, Xz, XA, XB, XD, XE, XF, XG, XH, XI, ev, XJ, upd, args1, args2, args3, args4, XK, XL, XM, extL, XN, XO, XP, XQ, XR, XT, XU, XV, XW, XX, XY, XZ, X0, X1, X2, X3, Addr.add, ↓reduceIte, Nat.reduceLT, Nat.reduceEqDiff, Nat.zero_add, Nat.reduceAdd, Option.map_some, X4, List.getElem_toArray, List.getElem_cons_zero, List.getElem_cons_succ, hb']; rfl) ?_
        refine t_skip ?_
        refine t_inBlock ?_
        refine t_region ?_
        repeat (first
          | (refine t_skG rfl (by decide) rfl ?_)
          | (refine t_skU rfl (by decide) rfl ?_)
          | (first | refine t_rdG (by decide) rfl (by decide) rfl (fun K hK => ?_) | refine t_rd (by decide) (fun K hK => ?_)
             simp only [Xa, Xb, Xc, Xd, Xe, Xf, Xg, Xh, Xi, Xj, Xk, Xl, Xm, Xn, Xo, Xp, Xq, Xr, Xs, Xt, Xu, Xv, Xw, Xx, Xy, Xz, XA, XB, XD, XE, XF, XG, XH, XI, ev, XJ, upd, args1, args2, args3, args4, XK, XL, XM, extL, XN, XO, XP, XQ, XR, XT, XU, XV, XW, XX, XY, XZ, X0, X1, X2, X3, Addr.add, ↓reduceIte, Nat.reduceLT, Nat.reduceEqDiff, Nat.zero_add, Nat.reduceAdd, Option.map_some, X4, List.getElem_toArray, List.getElem_cons_zero, List.getElem_cons_succ, hf13, hw2]
             refine hK _ ?_
             clear hK K))
        refine t_done ?_
        refine t_inLoop ?_
        refine ih (l.length - (j + 1)) _ O2 w2 (by omega) ⟨r1.trans r2, hf0, hf1, hf12, j + 1, rfl, rfl, by omega, fun i a b hi ha hb2 => ?_⟩
        by_cases e : i = j
        · subst e
          rw [List.getElem?_eq_getElem (by omega)] at ha
          rw [List.getElem?_eq_getElem (by omega)] at hb2
          cases ha; cases hb2; exact hb
        · exact hall i a b (by omega) ha hb2
      · have hb' : prEq l[j] l'[j] = false := by
          cases hq : prEq l[j] l'[j] with
          | false => rfl
          | true => exact absurd (prEq_iff.1 hq) hb
        refine t_true (by simp only [Xa, Xb, Xc, Xd, Xe, Xf, Xg, Xh, Xi, Xj, Xk, Xl, Xm, Xn, Xo, Xp, Xq, Xr, Xs, Xt, Xu, Xv, Xw, Xx, Xy, Xz, XA, XB, XD, XE, XF, XG, XH, XI, ev, XJ, upd, args1, args2, args3, args4, XK, XL, XM, extL, XN, XO, XP, XQ, XR, XT, XU, XV, XW, XX, XY, XZ, X0, X1, X2, X3, Addr.add, ↓reduceIte, Nat.reduceLT, Nat.reduceEqDiff, Nat.zero_add, Nat.reduceAdd, Option.map_some, X4, List.getElem_toArray, List.getElem_cons_zero, List.getElem_cons_succ, hb']; rfl) ?_
        refine t_seq ?_
        refine t_region ?_
        repeat (first
          | (refine t_skG rfl (by decide) rfl ?_)
          | (refine t_skU rfl (by decide) rfl ?_)
          | (first | refine t_rdG (by decide) rfl (by decide) rfl (fun K hK => ?_) | refine t_rd (by decide) (fun K hK => ?_)
             simp only [Xa, Xb, Xc, Xd, Xe, Xf, Xg, Xh, Xi, Xj, Xk, Xl, Xm, Xn, Xo, Xp, Xq, Xr, Xs, Xt, Xu, Xv, Xw, Xx, Xy, Xz, XA, XB, XD, XE, XF, XG, XH, XI, ev, XJ, upd, args1, args2, args3, args4, XK, XL, XM, extL, XN, XO, XP, XQ, XR, XT, XU, XV, XW, XX, XY, XZ, X0, X1, X2, X3, Addr.add, ↓reduceIte, Nat.reduceLT, Nat.reduceEqDiff, Nat.zero_add, Nat.reduceAdd, Option.map_some, X4, List.getElem_toArray, List.getElem_cons_zero, List.getElem_cons_succ]
             refine hK _ ?_
             clear hK K))
        refine t_done ?_
        refine t_ret ?_
        refine t_leave1 rfl Try.func20 Try.results20 ?_
        have := h O2 w2 (r1.trans r2)
        rw [sameL_false (.inr ⟨j, _, _, List.getElem?_eq_getElem hlt, List.getElem?_eq_getElem (by omega), hb⟩)] at this
        exact this
    · have hd : decide ((j : Int) < (l.length : Int)) = false := by simp; omega
      repeat (first
        | (refine t_skG rfl (by decide) rfl ?_)
        | (refine t_skU rfl (by decide) rfl ?_)
        | (first | refine t_rdG (by decide) rfl (by decide) rfl (fun K hK => ?_) | refine t_rd (by decide) (fun K hK => ?_)
           simp only [Xa, Xb, Xc, Xd, Xe, Xf, Xg, Xh, Xi, Xj, Xk, Xl, Xm, Xn, Xo, Xp, Xq, Xr, Xs, Xt, Xu, Xv, Xw, Xx, Xy, Xz, XA, XB, XD, XE, XF, XG, XH, XI, ev, XJ, upd, args1, args2, args3, args4, XK, XL, XM, extL, XN, XO, XP, XQ, XR, XT, XU, XV, XW, XX, XY, XZ, X0, X1, X2, X3, Addr.add, ↓reduceIte, Nat.reduceLT, Nat.reduceEqDiff, Nat.zero_add, Nat.reduceAdd, Option.map_some, X4, List.getElem_toArray, List.getElem_cons_zero, List.getElem_cons_succ, hf12, hf13, hd]
           refine hK _ ?_
           clear hK K))
      refine t_done ?_
      refine t_seq ?_
      refine t_false rfl ?_
      refine t_exit rfl ?_
      refine t_seq ?_
      refine t_region ?_
      repeat (first
        | (refine t_skG rfl (by decide) rfl ?_)
        | (refine t_skU rfl (by decide) rfl ?_)
        | (first | refine t_rdG (by decide) rfl (by decide) rfl (fun K hK => ?_) | refine t_rd (by decide) (fun K hK => ?_)
           simp only [Xa, Xb, Xc, Xd, Xe, Xf, Xg, Xh, Xi, Xj, Xk, Xl, Xm, Xn, Xo, Xp, Xq, Xr, Xs, Xt, Xu, Xv, Xw, Xx, Xy, Xz, XA, XB, XD, XE, XF, XG, XH, XI, ev, XJ, upd, args1, args2, args3, args4, XK, XL, XM, extL, XN, XO, XP, XQ, XR, XT, XU, XV, XW, XX, XY, XZ, X0, X1, X2, X3, Addr.add, ↓reduceIte, Nat.reduceLT, Nat.reduceEqDiff, Nat.zero_add, Nat.reduceAdd, Option.map_some, X4, List.getElem_toArray, List.getElem_cons_zero, List.getElem_cons_succ]
           refine hK _ ?_
           clear hK K))
      refine t_done ?_
      refine t_ret ?_
      refine t_leave1 rfl Try.func20 Try.results20 ?_
      have := h O1 w1 r1
      rw [sameL_true he fun i a b ha hb => hall i a b (by have := (List.getElem?_eq_some_iff.1 ha).1; omega) ha hb] at this
      exact this
  · have hd : (((l.length : Nat) : Int) != ((l'.length : Nat) : Int)) = true := by simp; omega
    repeat (first
      | (refine t_skG rfl (by decide) rfl ?_)
      | (refine t_skU rfl (by decide) rfl ?_)
      | (first | refine t_rdG (by decide) rfl (by decide) rfl (fun K hK => ?_) | refine t_rd (by decide) (fun K hK => ?_)
         simp only [Xa, Xb, Xc, Xd, Xe, Xf, Xg, Xh, Xi, Xj, Xk, Xl, Xm, Xn, Xo, Xp, Xq, Xr, Xs, Xt, Xu, Xv, Xw, Xx, Xy, Xz, XA, XB, XD, XE, XF, XG, XH, XI, ev, XJ, upd, args1, args2, args3, args4, XK, XL, XM, extL, XN, XO, XP, XQ, XR, XT, XU, XV, XW, XX, XY, XZ, X0, X1, X2, X3, Addr.add, ↓reduceIte, Nat.reduceLT, Nat.reduceEqDiff, Nat.zero_add, Nat.reduceAdd, Option.map_some, X4, List.getElem_toArray, List.getElem_cons_zero, List.getElem_cons_succ, hl, hl', hd]
         refine hK _ ?_
         clear hK K))
    refine t_done ?_
    refine t_true rfl ?_
    refine t_seq ?_
    refine t_region ?_
    repeat (first
      | (refine t_skG rfl (by decide) rfl ?_)
      | (refine t_skU rfl (by decide) rfl ?_)
      | (first | refine t_rdG (by decide) rfl (by decide) rfl (fun K hK => ?_) | refine t_rd (by decide) (fun K hK => ?_)
         simp only [Xa, Xb, Xc, Xd, Xe, Xf, Xg, Xh, Xi, Xj, Xk, Xl, Xm, Xn, Xo, Xp, Xq, Xr, Xs, Xt, Xu, Xv, Xw, Xx, Xy, Xz, XA, XB, XD, XE, XF, XG, XH, XI, ev, XJ, upd, args1, args2, args3, args4, XK, XL, XM, extL, XN, XO, XP, XQ, XR, XT, XU, XV, XW, XX, XY, XZ, X0, X1, X2, X3, Addr.add, ↓reduceIte, Nat.reduceLT, Nat.reduceEqDiff, Nat.zero_add, Nat.reduceAdd, Option.map_some, X4, List.getElem_toArray, List.getElem_cons_zero, List.getElem_cons_succ]
         refine hK _ ?_
         clear hK K))
    refine t_done ?_
    refine t_ret ?_
    refine t_leave1 rfl Try.func20 Try.results20 ?_
    have := h O w (Rel.refl x O w)
    rw [sameL_false (.inl he)] at this
    exact this

/-- Is there an entry of this key and number? -/
def keq (a b : Ent) : Bool := a.key.toList == b.key.toList && a.seq == b.seq
def hasL (l : List Ent) (e : Ent) : Bool := l.any fun a => keq a e
theorem hasL_true {l : List Ent} {e a : Ent} {i : Nat} (h : l[i]? = some a) (hk : keq a e = true) : hasL l e = true := by
  unfold hasL; rw [List.any_eq_true]; exact ⟨a, List.mem_of_getElem? h, hk⟩
theorem hasL_false {l : List Ent} {e : Ent} (h : ∀ (i : Nat) (a : Ent), l[i]? = some a → keq a e = false) : hasL l e = false := by
  unfold hasL; rw [List.any_eq_false]
  intro a ha
  obtain ⟨i, hi⟩ := List.getElem?_of_mem ha
  rw [h i a hi]; simp

set_option maxHeartbeats 4000000 in
theorem has_M {x : Th} {St : Gh → Goroutine → World → Prop} (l : List Ent) (e : Ent) (v : Value) (O : Gh) (w : World) (c : Frame) (cs : List Frame) (hv : SlE (ldOf x O w) v l) (hlen : l.length < 1000000)
    (h : ∀ O' w', Rel x O w O' w' → Tree P x St O' (G (c.finish (.bool (hasL l e))) cs) w') :
    Tree P x St O (G (Frame.enter P 31 #[v, e.v] .normal) (c :: cs)) w := by
  rw [enter2 _ _ Try.func31 rfl Try.ntmps31 (by decide)]
  have hl := hv.len
  refine t_seq ?_
  refine t_region ?_
  refine t_box e.cells rfl (by decide) ?_
  intro m1 O0 w0 h1
  repeat (first
    | (refine t_skG rfl (by decide) rfl ?_)
    | (refine t_skU rfl (by decide) rfl ?_)
    | (first | refine t_rdG (by decide) rfl (by decide) rfl (fun K hK => ?_) | refine t_rd (by decide) (fun K hK => ?_)
       simp only [Xa, Xb, Xc, Xd, Xe, Xf, Xg, Xh, Xi, Xj, Xk, Xl, Xm, Xn, Xo, Xp, Xq, Xr, Xs, Xt, Xu, Xv, Xw, Xx, Xy, Xz, XA, XB, XD, XE, XF, XG, XH, XI, ev, XJ, upd, args1, args2, args3, args4, XK, XL, XM, extL, XN, XO, XP, XQ, XR, XT, XU, XV, XW, XX, XY, XZ, X0, X1, X2, X3, Addr.add, ↓reduceIte, Nat.reduceLT, Nat.reduceEqDiff, Nat.zero_add, Nat.reduceAdd, Option.map_some, X4, List.getElem_toArray, List.getElem_cons_zero, List.getElem_cons_succ]
       refine hK _ ?_
       clear hK K))
  refine t_done ?_
  have hv0 := hv.rely h1.rel
  have b0' := h1.cell 0 (.string e.key) rfl
  have b1' := h1.cell 1 (.int .i64 e.seq) rfl
  refine t_seq ?_
  refine t_seq ?_
  refine t_region ?_
  repeat (first
    | (refine t_skG rfl (by decide) rfl ?_)
    | (refine t_skU rfl (by decide) rfl ?_)
    | (first | refine t_rdG (by decide) rfl (by decide) rfl (fun K hK => ?_) | refine t_rd (by decide) (fun K hK => ?_)
       simp only [Xa, Xb, Xc, Xd, Xe, Xf, Xg, Xh, Xi, Xj, Xk, Xl, Xm, Xn, Xo, Xp, Xq, Xr, Xs, Xt, Xu, Xv, Xw, Xx, Xy, Xz, XA, XB, XD, XE, XF, XG, XH, XI, ev, XJ, upd, args1, args2, args3, args4, XK, XL, XM, extL, XN, XO, XP, XQ, XR, XT, XU, XV, XW, XX, XY, XZ, X0, X1, X2, X3, Addr.add, ↓reduceIte, Nat.reduceLT, Nat.reduceEqDiff, Nat.zero_add, Nat.reduceAdd, Option.map_some, X4, List.getElem_toArray, List.getElem_cons_zero, List.getElem_cons_succ]
       refine hK _ ?_
       clear hK K))
  refine t_done ?_
  refine t_block ?_
  refine t_loop ?_
  refine t_while (fun m f O' w' => Rel x O0 w0 O' w' ∧ f 0 = v ∧ f 3 = .pointer (some ⟨m1, 0, none⟩) ∧ ∃ j : Nat, f 5 = .int .i64 (j : Int) ∧ m = l.length - j ∧ j ≤ l.length ∧ ∀ (i : Nat) (a : Ent), i < j → l[i]? = some a → keq a e = false)
    l.length ⟨Rel.refl x O0 w0, rfl, rfl, 0, rfl, rfl, Nat.zero_le _, fun i a hi => by omega⟩ ?_
  rintro m f O1 w1 ⟨r1, hf0, hf3, j, hf5, hm, hj, hall⟩ ih
  have hv1 := hv0.rely r1
  have b0 := ldOf_rely r1 b0'
  have b1 := ldOf_rely r1 b1'
  have hw2 : IntKind.i64.wrap ((j : Int) + 1) = ((j + 1 : Nat) : Int) := by rw [wrap64] <;> omega
  refine t_seq ?_
  refine t_seq ?_
  refine t_region ?_
  by_cases hlt : j < l.length
  · have hd : decide ((j : Int) < (l.length : Int)) = true := by simp; omega
    repeat (first
      | (refine t_skG rfl (by decide) rfl ?_)
      | (refine t_skU rfl (by decide) rfl ?_)
      | (first | refine t_rdG (by decide) rfl (by decide) rfl (fun K hK => ?_) | refine t_rd (by decide) (fun K hK => ?_)
         simp only [Xa, Xb, Xc, Xd, Xe, Xf, Xg, Xh, Xi, Xj, Xk, Xl, Xm, Xn, Xo, Xp, Xq, Xr, Xs, Xt, Xu, Xv, Xw, Xx, Xy, Xz, XA, XB, XD, XE, XF, XG, XH, XI, ev, XJ, upd, args1, args2, args3, args4, XK, XL, XM, extL, XN, XO, XP, XQ, XR, XT, XU, XV, XW, XX, XY, XZ, X0, X1, X2, X3, Addr.add, ↓reduceIte, Nat.reduceLT, Nat.reduceEqDiff, Nat.zero_add, Nat.reduceAdd, Option.map_some, X4, List.getElem_toArray, List.getElem_cons_zero, List.getElem_cons_succ, hf0, hf5, hl, hd]
         refine hK _ ?_
         clear hK K))
    refine t_done ?_
    refine t_true rfl ?_
    refine t_skip ?_
    refine t_seq ?_
    refine t_block ?_
    refine t_seq ?_
    obtain ⟨A, hA⟩ := hv1.at (List.getElem?_eq_getElem hlt)
    have iA := hA.idx
    have fA := hA.f0
    have gA := hA.f1
    have goOn : ∀ f' : Nat → Value, f' 0 = v → f' 3 = .pointer (some ⟨m1, 0, none⟩) → f' 5 = .int .i64 ((j + 1 : Nat) : Int) → keq l[j] e = false → ∀ O2 w2, Rel x O1 w1 O2 w2 → Rel x O0 w0 O2 w2 ∧ f' 0 = v ∧ f' 3 = .pointer (some ⟨m1, 0, none⟩) ∧ ∃ j' : Nat, f' 5 = .int .i64 (j' : Int) ∧ l.length - (j + 1) = l.length - j' ∧ j' ≤ l.length ∧ ∀ (i : Nat) (a : Ent), i < j' → l[i]? = some a → keq a e = false := by
      intro f' q0 q3 q5 hk O2 w2 r2
      refine ⟨r1.trans r2, q0, q3, j + 1, q5, rfl, by omega, fun i a hi ha => ?_⟩
      by_cases e' : i = j
      · subst e'
        rw [List.getElem?_eq_getElem (by omega)] at ha
        cases ha; exact hk
      · exact hall i a (by omega) ha
    refine t_drawn rfl (by decide) ?_
    cases hk1 : (l[j].key.toList == e.key.toList) with
    | false =>
      repeat (first
        | (refine d_skG rfl (by decide) rfl ?_)
        | (refine d_skU rfl (by decide) rfl ?_)
        | (first | refine d_rdG rfl (by decide) rfl (fun K hK => ?_) | refine d_rd (fun K hK => ?_)
           simp only [Xa, Xb, Xc, Xd, Xe, Xf, Xg, Xh, Xi, Xj, Xk, Xl, Xm, Xn, Xo, Xp, Xq, Xr, Xs, Xt, Xu, Xv, Xw, Xx, Xy, Xz, XA, XB, XD, XE, XF, XG, XH, XI, ev, XJ, upd, args1, args2, args3, args4, XK, XL, XM, extL, XN, XO, XP, XQ, XR, XT, XU, XV, XW, XX, XY, XZ, X0, X1, X2, X3, Addr.add, ↓reduceIte, Nat.reduceLT, Nat.reduceEqDiff, Nat.zero_add, Nat.reduceAdd, Option.map_some, X4, List.getElem_toArray, List.getElem_cons_zero, List.getElem_cons_succ, hf0, hf3, hf5, iA, fA, gA, b0, b1, hk1]
           refine hK _ ?_
           clear hK K))
      refine d_done ?_
      intro O2 w2 r2
      refine t_false rfl ?_
      refine t_skip ?_
      refine t_inBlock ?_
      refine t_region ?_
      repeat (first
        | (refine t_skG rfl (by decide) rfl ?_)
        | (refine t_skU rfl (by decide) rfl ?_)
        | (first | refine t_rdG (by decide) rfl (by decide) rfl (fun K hK => ?_) | refine t_rd (by decide) (fun K hK => ?_)
           simp only [Xa, Xb, Xc, Xd, Xe, Xf, Xg, Xh, Xi, Xj, Xk, Xl, Xm, Xn, Xo, Xp, Xq, Xr, Xs, Xt, Xu, Xv, Xw, Xx, Xy, Xz, XA, XB, XD, XE, XF, XG, XH, XI, ev, XJ, upd, args1, args2, args3, args4, XK, XL, XM, extL, XN, XO, XP, XQ, XR, XT, XU, XV, XW, XX, XY, XZ, X0, X1, X2, X3, Addr.add, ↓reduceIte, Nat.reduceLT, Nat.reduceEqDiff, Nat.zero_add, Nat.reduceAdd, Option.map_some, X4, List.getElem_toArray, List.getElem_cons_zero, List.getElem_cons_succ, hf5, hw2]
           refine hK _ ?_
           clear hK K))
      refine t_done ?_
      refine t_inLoop ?_
      refine ih (l.length - (j + 1)) _ O2 w2 (by omega) ?_
      refine goOn _ ?_ ?_ rfl (by unfold keq; rw [hk1]; rfl) O2 w2 r2
      · exact hf0
      · exact hf3
    | true =>
      cases hk2 : (l[j].seq == e.seq) with
      | false =>
        repeat (first
          | (refine d_skG rfl (by decide) rfl ?_)
          | (refine d_skU rfl (by decide) rfl ?_)
          | (first | refine d_rdG rfl (by decide) rfl (fun K hK => ?_) | refine d_rd (fun K hK => ?_)
             simp only [Xa, Xb, Xc, Xd, Xe, Xf, Xg, Xh, Xi, Xj, Xk, Xl, Xm, Xn, Xo, Xp, Xq, Xr, Xs, Xt, Xu, Xv, Xw, Xx, Xy, Xz, XA, XB, XD, XE, XF, XG, XH, XI, ev, XJ, upd, args1, args2, args3, args4, XK, XL, XM, extL, XN, XO, XP, XQ, XR, XT, XU, XV, XW, XX, XY, XZ, X0, X1, X2, X3, Addr.add, ↓reduceIte, Nat.reduceLT, Nat.reduceEqDiff, Nat.zero_add, Nat.reduceAdd, Option.map_some, X4, List.getElem_toArray, List.getElem_cons_zero, List.getElem_cons_succ, hf0, hf3, hf5, iA, fA, gA, b0, b1, hk1, hk2]
             refine hK _ ?_
             clear hK K))
        refine d_done ?_
        intro O2 w2 r2
        refine t_false rfl ?_
        refine t_skip ?_
        refine t_inBlock ?_
        refine t_region ?_
        repeat (first
          | (refine t_skG rfl (by decide) rfl ?_)
          | (refine t_skU rfl (by decide) rfl ?_)
          | (first | refine t_rdG (by decide) rfl (by decide) rfl (fun K hK => ?_) | refine t_rd (by decide) (fun K hK => ?_)
             simp only [Xa, Xb, Xc, Xd, Xe, Xf, Xg, Xh, Xi, Xj, Xk, Xl, Xm, Xn, Xo, Xp, Xq, Xr, Xs, Xt, Xu, Xv, Xw, Xx, Xy, Xz, XA, XB, XD, XE, XF, XG, XH, XI, ev, XJ, upd, args1, args2, args3, args4, XK, XL, XM, extL, XN, XO, XP, XQ, XR, XT, XU, XV, XW, XX, XY, XZ, X0, X1, X2, X3, Addr.add, ↓reduceIte, Nat.reduceLT, Nat.reduceEqDiff, Nat.zero_add, Nat.reduceAdd, Option.map_some, X4, List.getElem_toArray, List.getElem_cons_zero, List.getElem_cons_succ, hf5, hw2]
             refine hK _ ?_
             clear hK K))
        refine t_done ?_
        refine t_inLoop ?_
        refine ih (l.length - (j + 1)) _ O2 w2 (by omega) ?_
        refine goOn _ ?_ ?_ rfl (by unfold keq; rw [hk1, hk2]; rfl) O2 w2 r2
        · exact hf0
        · exact hf3
      | true =>
        repeat (first
          | (refine d_skG rfl (by decide) rfl ?_)
          | (refine d_skU rfl (by decide) rfl ?_)
          | (first | refine d_rdG rfl (by decide) rfl (fun K hK => ?_) | refine d_rd (fun K hK => ?_)
             simp only [Xa, Xb, Xc, Xd, Xe, Xf, Xg, Xh, Xi, Xj, Xk, Xl, Xm, Xn, Xo, Xp, Xq, Xr, Xs, Xt, Xu, Xv, Xw, Xx, Xy, Xz, XA, XB, XD, XE, XF, XG, XH, XI, ev, XJ, upd, args1, args2, args3, args4, XK, XL, XM, extL, XN, XO, XP, XQ, XR, XT, XU, XV, XW, XX, XY, XZ, X0, X1, X2, X3, Addr.add, ↓reduceIte, Nat.reduceLT, Nat.reduceEqDiff, Nat.zero_add, Nat.reduceAdd, Option.map_some, X4, List.getElem_toArray, List.getElem_cons_zero, List.getElem_cons_succ, hf0, hf3, hf5, iA, fA, gA, b0, b1, hk1, hk2]
             refine hK _ ?_
             clear hK K))
        refine d_done ?_
        intro O2 w2 r2
        refine t_true rfl ?_
        refine t_seq ?_
        refine t_region ?_
        repeat (first
          | (refine t_skG rfl (by decide) rfl ?_)
          | (refine t_skU rfl (by decide) rfl ?_)
          | (first | refine t_rdG (by decide) rfl (by decide) rfl (fun K hK => ?_) | refine t_rd (by decide) (fun K hK => ?_)
             simp only [Xa, Xb, Xc, Xd, Xe, Xf, Xg, Xh, Xi, Xj, Xk, Xl, Xm, Xn, Xo, Xp, Xq, Xr, Xs, Xt, Xu, Xv, Xw, Xx, Xy, Xz, XA, XB, XD, XE, XF, XG, XH, XI, ev, XJ, upd, args1, args2, args3, args4, XK, XL, XM, extL, XN, XO, XP, XQ, XR, XT, XU, XV, XW, XX, XY, XZ, X0, X1, X2, X3, Addr.add, ↓reduceIte, Nat.reduceLT, Nat.reduceEqDiff, Nat.zero_add, Nat.reduceAdd, Option.map_some, X4, List.getElem_toArray, List.getElem_cons_zero, List.getElem_cons_succ]
             refine hK _ ?_
             clear hK K))
        refine t_done ?_
        refine t_ret ?_
        refine t_leave1 rfl Try.func31 Try.results31 ?_
        have := h O2 w2 (h1.rel.trans (r1.trans r2))
        rw [hasL_true (List.getElem?_eq_getElem hlt) (by unfold keq; rw [hk1, hk2]; rfl)] at this
        exact this
  · have hd : decide ((j : Int) < (l.length : Int)) = false := by simp; omega
    repeat (first
      | (refine t_skG rfl (by decide) rfl ?_)
      | (refine t_skU rfl (by decide) rfl ?_)
      | (first | refine t_rdG (by decide) rfl (by decide) rfl (fun K hK => ?_) | refine t_rd (by decide) (fun K hK => ?_)
         simp only [Xa, Xb, Xc, Xd, Xe, Xf, Xg, Xh, Xi, Xj, Xk, Xl, Xm, Xn, Xo, Xp, Xq, Xr, Xs, Xt, Xu, Xv, Xw, Xx, Xy, Xz, XA, XB, XD, XE, XF, XG, XH, XI, ev, XJ, upd, args1, args2, args3, args4, XK, XL, XM, extL, XN, XO, XP, XQ, XR, XT, XU, XV, XW, XX, XY, XZ, X0, X1, X2, X3, Addr.add, ↓reduceIte, Nat.reduceLT, Nat.reduceEqDiff, Nat.zero_add, Nat.reduceAdd, Option.map_some, X4, List.getElem_toArray, List.getElem_cons_zero, List.getElem_cons_succ, hf0, hf5, hl, hd]
         refine hK _ ?_
         clear hK K))
    refine t_done ?_
    refine t_false rfl ?_
    refine t_exit rfl ?_
    refine t_seq ?_
    refine t_region ?_
    repeat (first
      | (refine t_skG rfl (by decide) rfl ?_)
      | (refine t_skU rfl (by decide) rfl ?_)
      | (first | refine t_rdG (by decide) rfl (by decide) rfl (fun K hK => ?_) | refine t_rd (by decide) (fun K hK => ?_)
         simp only [Xa, Xb, Xc, Xd, Xe, Xf, Xg, Xh, Xi, Xj, Xk, Xl, Xm, Xn, Xo, Xp, Xq, Xr, Xs, Xt, Xu, Xv, Xw, Xx, Xy, Xz, XA, XB, XD, XE, XF, XG, XH, XI, ev, XJ, upd, args1, args2, args3, args4, XK, XL, XM, extL, XN, XO, XP, XQ, XR, XT, XU, XV, XW, XX, XY, XZ, X0, X1, X2, X3, Addr.add, ↓reduceIte, Nat.reduceLT, Nat.reduceEqDiff, Nat.zero_add, Nat.reduceAdd, Option.map_some, X4, List.getElem_toArray, List.getElem_cons_zero, List.getElem_cons_succ]
         refine hK _ ?_
         clear hK K))
    refine t_done ?_
    refine t_ret ?_
    refine t_leave1 rfl Try.func31 Try.results31 ?_
    have := h O1 w1 (h1.rel.trans r1)
    rw [hasL_false fun i a ha => hall i a (by have := (List.getElem?_eq_some_iff.1 ha).1; omega) ha] at this
    exact this
end Go.Proofs.Ytdajdembeacefaa.M

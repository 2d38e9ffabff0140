/-
  FIRST: its contract, for main. And Merge's.
-/
import Derived.Test.YtdajdembeacefaaAR
import Derived.Test.YtdajdembeacefaaZ
set_option linter.unusedSimpArgs false
set_option linter.unusedVariables false
namespace Go.Proofs.Ytdajdembeacefaa.M
open Go.Conc
open Go.ConcR (KK wgBlock WgAt stA smA rd wr mk)

def firstL (ls : List (List Ent)) (n : Int) : List Ent := mrg (total ls) n ls []
theorem nm23 : ((Try.f23).name == "runtime.NumGoroutine") = false := by kernel_rfl
theorem zero51 (L : Addr → Option Value) : runL P L (zeroValue 51) = some (.chan none) := rfl
theorem zero61 (L : Addr → Option Value) : runL P L (zeroValue 61) = some (.agg #[.int .u64 0, .int .u32 0]) := rfl

set_option maxHeartbeats 16000000 in
theorem First_M {Post : Value → World → Prop} (ls : List (List Ent)) (v : Value) (n : Int) (O : Gh) (w : World) (c : Frame) (cs : List Frame) (hv : Sl2 (ldOf x0 O w) v ls) (hd : O.deaf = 0)
    (hls : ls.length < 100000) (hlen : ∀ l ∈ ls, l.length < 100000) (htot : total ls < 100000)
    (h : goodL ls = true → ∀ O' w' s m, Keep O w O' w' → Buf 4 x0 O' w' m s ((firstL ls n).map Ent.cells) → (firstL ls n ≠ [] → w.heap.size ≤ m ∧ m < w'.heap.size) → (firstL ls n = [] → s = .slice none 0 0) →
      Tree P x0 (Will P Post) O' (G (c.finish (.tuple #[s, .int .i64 0])) cs) w')
    (herr : goodL ls = false → ∀ O' w', Keep O w O' w' → Tree P x0 (Will P Post) O' (G (c.finish (.tuple #[.slice none 0 0, .int .i64 60])) cs) w') :
    Tree P x0 (Will P Post) O (G (Frame.enter P 11 #[v, .int .i64 n] .normal) (c :: cs)) w := by
  rw [enter2 _ _ Try.func11 rfl Try.ntmps11 (by decide)]
  have hl := hv.len
  refine t_seq ?_
  refine t_region ?_
  repeat (first
    | (refine t_skG rfl (by decide) rfl ?_)
    | (refine t_skU rfl (by decide) rfl ?_)
    | (first | refine t_rdG (by decide) rfl (by decide) rfl (fun K hK => ?_) | refine t_rd (by decide) (fun K hK => ?_)
       simp only [Xa, Xb, Xc, Xd, Xe, Xf, Xg, Xh, Xi, Xj, Xk, Xl, Xm, Xn, Xo, Xp, Xq, Xr, Xs, Xt, Xu, Xv, Xw, Xx, Xy, Xz, XA, XB, XD, XE, XF, XG, XH, XI, ev, XJ, upd, args1, args2, args3, args4, XK, XL, XM, extL, XN, XO, XP, XQ, XR, XT, XU, XV, XW, XX, XY, XZ, X0, X1, X2, X3, Addr.add, ↓reduceIte, Nat.reduceLT, Nat.reduceEqDiff, Nat.zero_add, Nat.reduceAdd, Option.map_some, X4, List.getElem_toArray, List.getElem_cons_zero, List.getElem_cons_succ]
       refine hK _ ?_
       clear hK K))
  refine t_done ?_
  refine t_scope ?_
  refine t_seq ?_
  refine t_seq ?_
  refine t_region ?_
  repeat (first
    | (refine t_skG rfl (by decide) rfl ?_)
    | (refine t_skU rfl (by decide) rfl ?_)
    | (first | refine t_rdG (by decide) rfl (by decide) rfl (fun K hK => ?_) | refine t_rd (by decide) (fun K hK => ?_)
       simp only [Xa, Xb, Xc, Xd, Xe, Xf, Xg, Xh, Xi, Xj, Xk, Xl, Xm, Xn, Xo, Xp, Xq, Xr, Xs, Xt, Xu, Xv, Xw, Xx, Xy, Xz, XA, XB, XD, XE, XF, XG, XH, XI, ev, XJ, upd, args1, args2, args3, args4, XK, XL, XM, extL, XN, XO, XP, XQ, XR, XT, XU, XV, XW, XX, XY, XZ, X0, X1, X2, X3, Addr.add, ↓reduceIte, Nat.reduceLT, Nat.reduceEqDiff, Nat.zero_add, Nat.reduceAdd, Option.map_some, X4, List.getElem_toArray, List.getElem_cons_zero, List.getElem_cons_succ, hl]
       refine hK _ ?_
       clear hK K))
  refine t_done ?_
  refine t_block ?_
  refine t_loop ?_
  refine t_while (fun m f O' w' => Rel x0 O w O' w' ∧ f 0 = v ∧ f 1 = .int .i64 n ∧ f 18 = v ∧ f 19 = .int .i64 (ls.length : Int) ∧ ∃ j : Nat, f 20 = .int .i64 (j : Int) ∧ m = ls.length - j ∧ j ≤ ls.length ∧ ∀ (i : Nat) (l : List Ent), i < j → ls[i]? = some l → ordL l = true)
    ls.length ⟨Rel.refl x0 O w, rfl, rfl, rfl, rfl, 0, rfl, rfl, Nat.zero_le _, fun i l hi => by omega⟩ ?_
  rintro m f O1 w1 ⟨r1, hf0, hf1, hf18, hf19, j, hf20, hm, hj, hall⟩ ih
  have hv1 := hv.rely r1
  have hw2 : IntKind.i64.wrap ((j : Int) + 1) = ((j + 1 : Nat) : Int) := by rw [wrap64] <;> omega
  refine t_seq ?_
  refine t_region ?_
  by_cases hlt : j < ls.length
  · have hd0 : decide ((j : Int) < (ls.length : Int)) = true := decide_eq_true (by omega)
    repeat (first
      | (refine t_skG rfl (by decide) rfl ?_)
      | (refine t_skU rfl (by decide) rfl ?_)
      | (first | refine t_rdG (by decide) rfl (by decide) rfl (fun K hK => ?_) | refine t_rd (by decide) (fun K hK => ?_)
         simp only [Xa, Xb, Xc, Xd, Xe, Xf, Xg, Xh, Xi, Xj, Xk, Xl, Xm, Xn, Xo, Xp, Xq, Xr, Xs, Xt, Xu, Xv, Xw, Xx, Xy, Xz, XA, XB, XD, XE, XF, XG, XH, XI, ev, XJ, upd, args1, args2, args3, args4, XK, XL, XM, extL, XN, XO, XP, XQ, XR, XT, XU, XV, XW, XX, XY, XZ, X0, X1, X2, X3, Addr.add, ↓reduceIte, Nat.reduceLT, Nat.reduceEqDiff, Nat.zero_add, Nat.reduceAdd, Option.map_some, X4, List.getElem_toArray, List.getElem_cons_zero, List.getElem_cons_succ, hf19, hf20, hd0]
         refine hK _ ?_
         clear hK K))
    refine t_done ?_
    refine t_seq ?_
    refine t_true rfl ?_
    refine t_skip ?_
    refine t_seq ?_
    refine t_block ?_
    obtain ⟨A, u, iA, lA, hu⟩ := hv1.at (List.getElem?_eq_getElem hlt)
    refine t_seq ?_
    refine t_region ?_
    repeat (first
      | (refine t_skG rfl (by decide) rfl ?_)
      | (refine t_skU rfl (by decide) rfl ?_)
      | (first | refine t_rdG (by decide) rfl (by decide) rfl (fun K hK => ?_) | refine t_rd (by decide) (fun K hK => ?_)
         simp only [Xa, Xb, Xc, Xd, Xe, Xf, Xg, Xh, Xi, Xj, Xk, Xl, Xm, Xn, Xo, Xp, Xq, Xr, Xs, Xt, Xu, Xv, Xw, Xx, Xy, Xz, XA, XB, XD, XE, XF, XG, XH, XI, ev, XJ, upd, args1, args2, args3, args4, XK, XL, XM, extL, XN, XO, XP, XQ, XR, XT, XU, XV, XW, XX, XY, XZ, X0, X1, X2, X3, Addr.add, ↓reduceIte, Nat.reduceLT, Nat.reduceEqDiff, Nat.zero_add, Nat.reduceAdd, Option.map_some, X4, List.getElem_toArray, List.getElem_cons_zero, List.getElem_cons_succ, hf18, hf20, iA, lA]
         refine hK _ ?_
         clear hK K))
    refine t_done ?_
    refine t_seq ?_
    refine t_region ?_
    iterate 1 (first
      | (refine t_skG rfl (by decide) rfl ?_)
      | (refine t_skU rfl (by decide) rfl ?_)
      | (first | refine t_rdG (by decide) rfl (by decide) rfl (fun K hK => ?_) | refine t_rd (by decide) (fun K hK => ?_)
         simp only [Xa, Xb, Xc, Xd, Xe, Xf, Xg, Xh, Xi, Xj, Xk, Xl, Xm, Xn, Xo, Xp, Xq, Xr, Xs, Xt, Xu, Xv, Xw, Xx, Xy, Xz, XA, XB, XD, XE, XF, XG, XH, XI, ev, XJ, upd, args1, args2, args3, args4, XK, XL, XM, extL, XN, XO, XP, XQ, XR, XT, XU, XV, XW, XX, XY, XZ, X0, X1, X2, X3, Addr.add, ↓reduceIte, Nat.reduceLT, Nat.reduceEqDiff, Nat.zero_add, Nat.reduceAdd, Option.map_some, X4, List.getElem_toArray, List.getElem_cons_zero, List.getElem_cons_succ]
         refine hK _ ?_
         clear hK K))
    refine t_callA #[u] (by decide) Try.func23 nm23 rfl (by simp only [List.map_toArray, List.map_cons, List.map_nil, Xa, Xb, Xc, Xd, Xe, Xf, Xg, Xh, Xi, Xj, Xk, Xl, Xm, Xn, Xo, Xp, Xq, Xr, Xs, Xt, Xu, Xv, Xw, Xx, Xy, Xz, XA, XB, XD, XE, XF, XG, XH, XI, ev, XJ, upd, args1, args2, args3, args4, XK, XL, XM, extL, XN, XO, XP, XQ, XR, XT, XU, XV, XW, XX, XY, XZ, X0, X1, X2, X3, Addr.add, ↓reduceIte, Nat.reduceLT, Nat.reduceEqDiff, Nat.zero_add, Nat.reduceAdd, Option.map_some, X4, List.getElem_toArray, List.getElem_cons_zero, List.getElem_cons_succ]) ?_
    intro c2 hret
    refine ordered_M _ _ _ _ _ _ hu (by have := hlen _ (List.getElem_mem hlt); omega) ?_
    intro O2 w2 r2
    refine hret _ O2 w2 ?_
    clear hret
    cases ho : ordL ls[j] with
    | false =>
      repeat (first
        | (refine t_skG rfl (by decide) rfl ?_)
        | (refine t_skU rfl (by decide) rfl ?_)
        | (first | refine t_rdG (by decide) rfl (by decide) rfl (fun K hK => ?_) | refine t_rd (by decide) (fun K hK => ?_)
           simp only [Xa, Xb, Xc, Xd, Xe, Xf, Xg, Xh, Xi, Xj, Xk, Xl, Xm, Xn, Xo, Xp, Xq, Xr, Xs, Xt, Xu, Xv, Xw, Xx, Xy, Xz, XA, XB, XD, XE, XF, XG, XH, XI, ev, XJ, upd, args1, args2, args3, args4, XK, XL, XM, extL, XN, XO, XP, XQ, XR, XT, XU, XV, XW, XX, XY, XZ, X0, X1, X2, X3, Addr.add, ↓reduceIte, Nat.reduceLT, Nat.reduceEqDiff, Nat.zero_add, Nat.reduceAdd, Option.map_some, X4, List.getElem_toArray, List.getElem_cons_zero, List.getElem_cons_succ]
           refine hK _ ?_
           clear hK K))
      refine t_done ?_
      refine t_true rfl ?_
      refine t_seq ?_
      refine t_region ?_
      repeat (first
        | (refine t_skG rfl (by decide) rfl ?_)
        | (refine t_skU rfl (by decide) rfl ?_)
        | (first | refine t_rdG (by decide) rfl (by decide) rfl (fun K hK => ?_) | refine t_rd (by decide) (fun K hK => ?_)
           simp only [Xa, Xb, Xc, Xd, Xe, Xf, Xg, Xh, Xi, Xj, Xk, Xl, Xm, Xn, Xo, Xp, Xq, Xr, Xs, Xt, Xu, Xv, Xw, Xx, Xy, Xz, XA, XB, XD, XE, XF, XG, XH, XI, ev, XJ, upd, args1, args2, args3, args4, XK, XL, XM, extL, XN, XO, XP, XQ, XR, XT, XU, XV, XW, XX, XY, XZ, X0, X1, X2, X3, Addr.add, ↓reduceIte, Nat.reduceLT, Nat.reduceEqDiff, Nat.zero_add, Nat.reduceAdd, Option.map_some, X4, List.getElem_toArray, List.getElem_cons_zero, List.getElem_cons_succ]
           refine hK _ ?_
           clear hK K))
      refine t_done ?_
      refine t_ret ?_
      refine t_leave2 rfl Try.func11 Try.results11 ?_
      exact herr (goodL_false (List.getElem?_eq_getElem hlt) ho) O2 w2 (r1.trans r2).keep
    | true =>
      repeat (first
        | (refine t_skG rfl (by decide) rfl ?_)
        | (refine t_skU rfl (by decide) rfl ?_)
        | (first | refine t_rdG (by decide) rfl (by decide) rfl (fun K hK => ?_) | refine t_rd (by decide) (fun K hK => ?_)
           simp only [Xa, Xb, Xc, Xd, Xe, Xf, Xg, Xh, Xi, Xj, Xk, Xl, Xm, Xn, Xo, Xp, Xq, Xr, Xs, Xt, Xu, Xv, Xw, Xx, Xy, Xz, XA, XB, XD, XE, XF, XG, XH, XI, ev, XJ, upd, args1, args2, args3, args4, XK, XL, XM, extL, XN, XO, XP, XQ, XR, XT, XU, XV, XW, XX, XY, XZ, X0, X1, X2, X3, Addr.add, ↓reduceIte, Nat.reduceLT, Nat.reduceEqDiff, Nat.zero_add, Nat.reduceAdd, Option.map_some, X4, List.getElem_toArray, List.getElem_cons_zero, List.getElem_cons_succ]
           refine hK _ ?_
           clear hK K))
      refine t_done ?_
      refine t_false rfl ?_
      refine t_skip ?_
      refine t_inBlock ?_
      refine t_region ?_
      repeat (first
        | (refine t_skG rfl (by decide) rfl ?_)
        | (refine t_skU rfl (by decide) rfl ?_)
        | (first | refine t_rdG (by decide) rfl (by decide) rfl (fun K hK => ?_) | refine t_rd (by decide) (fun K hK => ?_)
           simp only [Xa, Xb, Xc, Xd, Xe, Xf, Xg, Xh, Xi, Xj, Xk, Xl, Xm, Xn, Xo, Xp, Xq, Xr, Xs, Xt, Xu, Xv, Xw, Xx, Xy, Xz, XA, XB, XD, XE, XF, XG, XH, XI, ev, XJ, upd, args1, args2, args3, args4, XK, XL, XM, extL, XN, XO, XP, XQ, XR, XT, XU, XV, XW, XX, XY, XZ, X0, X1, X2, X3, Addr.add, ↓reduceIte, Nat.reduceLT, Nat.reduceEqDiff, Nat.zero_add, Nat.reduceAdd, Option.map_some, X4, List.getElem_toArray, List.getElem_cons_zero, List.getElem_cons_succ, hf20, hw2]
           refine hK _ ?_
           clear hK K))
      refine t_done ?_
      refine t_inLoop ?_
      refine ih (ls.length - (j + 1)) _ O2 w2 (by omega) ⟨r1.trans r2, hf0, hf1, hf18, hf19, j + 1, rfl, rfl, by omega, fun i l hi hli => ?_⟩
      by_cases e : i = j
      · subst e
        rw [List.getElem?_eq_getElem (by omega)] at hli
        cases hli; exact ho
      · exact hall i l (by omega) hli
  · have hd0 : decide ((j : Int) < (ls.length : Int)) = false := decide_eq_false (by omega)
    have hgood : goodL ls = true := goodL_true fun i l hi => hall i l (by have := (List.getElem?_eq_some_iff.1 hi).1; omega) hi
    repeat (first
      | (refine t_skG rfl (by decide) rfl ?_)
      | (refine t_skU rfl (by decide) rfl ?_)
      | (first | refine t_rdG (by decide) rfl (by decide) rfl (fun K hK => ?_) | refine t_rd (by decide) (fun K hK => ?_)
         simp only [Xa, Xb, Xc, Xd, Xe, Xf, Xg, Xh, Xi, Xj, Xk, Xl, Xm, Xn, Xo, Xp, Xq, Xr, Xs, Xt, Xu, Xv, Xw, Xx, Xy, Xz, XA, XB, XD, XE, XF, XG, XH, XI, ev, XJ, upd, args1, args2, args3, args4, XK, XL, XM, extL, XN, XO, XP, XQ, XR, XT, XU, XV, XW, XX, XY, XZ, X0, X1, X2, X3, Addr.add, ↓reduceIte, Nat.reduceLT, Nat.reduceEqDiff, Nat.zero_add, Nat.reduceAdd, Option.map_some, X4, List.getElem_toArray, List.getElem_cons_zero, List.getElem_cons_succ, hf19, hf20, hd0]
         refine hK _ ?_
         clear hK K))
    refine t_done ?_
    refine t_seq ?_
    refine t_false rfl ?_
    refine t_exit rfl ?_
    refine t_seq ?_
    refine t_region ?_
    refine t_makeChan rfl (by decide) Try.underlying51 rfl ?_
    intro e O2 w2 n2
    refine t_alloc (by decide) (zero51 _) ?_
    intro eb O3 w3 n3
    refine t_store (sz := 1) (m := eb) (off := 0) [.chan (some e)] (by decide) rfl (by simp only [Xa, Xb, Xc, Xd, Xe, Xf, Xg, Xh, Xi, Xj, Xk, Xl, Xm, Xn, Xo, Xp, Xq, Xr, Xs, Xt, Xu, Xv, Xw, Xx, Xy, Xz, XA, XB, XD, XE, XF, XG, XH, XI, ev, XJ, upd, args1, args2, args3, args4, XK, XL, XM, extL, XN, XO, XP, XQ, XR, XT, XU, XV, XW, XX, XY, XZ, X0, X1, X2, X3, Addr.add, ↓reduceIte, Nat.reduceLT, Nat.reduceEqDiff, Nat.zero_add, Nat.reduceAdd, Option.map_some, X4, List.getElem_toArray, List.getElem_cons_zero, List.getElem_cons_succ]) (by simp only [Xa, Xb, Xc, Xd, Xe, Xf, Xg, Xh, Xi, Xj, Xk, Xl, Xm, Xn, Xo, Xp, Xq, Xr, Xs, Xt, Xu, Xv, Xw, Xx, Xy, Xz, XA, XB, XD, XE, XF, XG, XH, XI, ev, XJ, upd, args1, args2, args3, args4, XK, XL, XM, extL, XN, XO, XP, XQ, XR, XT, XU, XV, XW, XX, XY, XZ, X0, X1, X2, X3, Addr.add, ↓reduceIte, Nat.reduceLT, Nat.reduceEqDiff, Nat.zero_add, Nat.reduceAdd, Option.map_some, X4, List.getElem_toArray, List.getElem_cons_zero, List.getElem_cons_succ]; rfl) rfl (by simp [one?]) (.inl n3.tag) n3.obj (by decide) ?_
    intro O4 w4 w5 r4 hm5 ht5 hb5
    refine t_done ?_
    refine t_seq ?_
    refine t_region ?_
    refine t_allocF rfl (by decide) (zero61 _) ?_
    intro Wg O6 w6 n6
    refine t_done ?_
    refine t_seq ?_
    refine t_region ?_
    repeat (first
      | (refine t_skG rfl (by decide) rfl ?_)
      | (refine t_skU rfl (by decide) rfl ?_)
      | (first | refine t_rdG (by decide) rfl (by decide) rfl (fun K hK => ?_) | refine t_rd (by decide) (fun K hK => ?_)
         simp only [Xa, Xb, Xc, Xd, Xe, Xf, Xg, Xh, Xi, Xj, Xk, Xl, Xm, Xn, Xo, Xp, Xq, Xr, Xs, Xt, Xu, Xv, Xw, Xx, Xy, Xz, XA, XB, XD, XE, XF, XG, XH, XI, ev, XJ, upd, args1, args2, args3, args4, XK, XL, XM, extL, XN, XO, XP, XQ, XR, XT, XU, XV, XW, XX, XY, XZ, X0, X1, X2, X3, Addr.add, ↓reduceIte, Nat.reduceLT, Nat.reduceEqDiff, Nat.zero_add, Nat.reduceAdd, Option.map_some, X4, List.getElem_toArray, List.getElem_cons_zero, List.getElem_cons_succ]
         refine hK _ ?_
         clear hK K))
    refine t_done ?_
    refine t_seq ?_
    refine t_seq ?_
    refine t_region ?_
    repeat (first
      | (refine t_skG rfl (by decide) rfl ?_)
      | (refine t_skU rfl (by decide) rfl ?_)
      | (first | refine t_rdG (by decide) rfl (by decide) rfl (fun K hK => ?_) | refine t_rd (by decide) (fun K hK => ?_)
         simp only [Xa, Xb, Xc, Xd, Xe, Xf, Xg, Xh, Xi, Xj, Xk, Xl, Xm, Xn, Xo, Xp, Xq, Xr, Xs, Xt, Xu, Xv, Xw, Xx, Xy, Xz, XA, XB, XD, XE, XF, XG, XH, XI, ev, XJ, upd, args1, args2, args3, args4, XK, XL, XM, extL, XN, XO, XP, XQ, XR, XT, XU, XV, XW, XX, XY, XZ, X0, X1, X2, X3, Addr.add, ↓reduceIte, Nat.reduceLT, Nat.reduceEqDiff, Nat.zero_add, Nat.reduceAdd, Option.map_some, X4, List.getElem_toArray, List.getElem_cons_zero, List.getElem_cons_succ, hf0, hl]
         refine hK _ ?_
         clear hK K))
    refine t_done ?_
    refine t_block ?_
    refine t_loop ?_
    have oeb : Own O4 w5 eb (.cells #[.chan (some e)] 51 (0, 0)) := ⟨ht5.trans n3.tag, hb5⟩
    have oce : Chn O2 w2 e := ⟨n2.tag, n2.obj⟩
    have hel := oce.lt
    have hebg := n3.ge
    have hebl := oeb.lt
    have hWgg := n6.ge
    have oce6 := (((oce.rel n3.rel).rel r4).mod hm5 (by omega)).rel n6.rel
    have oeb6 := oeb.rel n6.rel
    have s12 := n2.rel.size
    have r6 : Rel x0 O1 w1 O6 w6 := (((n2.rel.trans n3.rel).trans r4).mod hm5 (by omega)).trans n6.rel
    refine Tree.stop fun O7 w7 r7 => will_plain fun hpl => ?_
    have n7 := n6.rely rfl r7
    have oce7 := oce6.rel r7
    have oeb7 := oeb6.rel r7
    have r07 := (r1.trans r6).trans r7
    have hWl : Wg < w7.heap.size := (Array.getElem?_eq_some_iff.1 n7.obj).1
    have heW : e ≠ Wg := by have := r4.size; have := hm5.size; have := n3.rel.size; omega
    have hebW : eb ≠ Wg := by omega
    have hebe : eb ≠ e := by omega
    have hsh7 : w7.shape? Wg = some (61, 2) := by unfold World.shape?; rw [n7.obj]; rfl
    refine will_phase (ty := 61) (Wg := Wg) (e := e) (AnchW := AnchAll 61 Wg (Will P Post)) (F := 2 * ls.length + total ls + 1) (anchAll_W1 61 Wg _) n7.tag oce7.tag heW n7.obj ⟨0, 0, false, oce7.obj⟩ fun O8 ht8 hW8 he8 hd8 => ?_
    have hd7 : O7.deaf = 0 := r07.deaf.trans hd
    refine loop2 61 Wg e eb O7 w7 (Will P Post) n c cs hd7 hpl ls v (hv.rely r07) hls hlen htot (firstL ls n) rfl (fun mo so O9 w9 S hB hmo hso hH => ?_) ls.length 0 (Nat.zero_add _) 0 Wg (.slice none 0 0) [] [] O8 w7 _
      ⟨⟨hW8, hsh7, he8, oce7.lt, Held.start hd8 fun b hb hb0 => ?_, .inl ?_, oeb7.obj, ⟨by simp, by simp⟩, by simp, ⟨rfl, rfl, by simp⟩, Buf.nil _ _ _ _ _⟩, by simp, .inr ⟨?_, Nat.zero_le _⟩, Nat.zero_le _, fun _ => rfl, fun hn => absurd rfl hn⟩ ?_ ?_ ?_ ?_ ?_ ?_ ?_
    · have hk := hH.keep hpl
      have s07 := r07.size
      exact h hgood _ _ so mo (r07.keep.trans hk) hB.reset (fun hn => ⟨Nat.le_trans s07 (hmo hn).1, (hmo hn).2⟩) hso
    · have q1 : b ≠ Wg := fun e1 => by rw [e1, n7.tag] at hb0; cases hb0
      have q2 : b ≠ e := fun e1 => by rw [e1, oce7.tag] at hb0; cases hb0
      rw [ht8 b q1 q2]; exact hb0
    · rw [ht8 eb hebW hebe]; exact oeb7.tag
    · rw [ht8 eb hebW hebe]; exact oeb7.tag
    · exact hf1
    · rfl
    · rfl
    · rfl
    · first | rfl | exact hf0
    · rfl
    · rfl
end Go.Proofs.Ytdajdembeacefaa.M

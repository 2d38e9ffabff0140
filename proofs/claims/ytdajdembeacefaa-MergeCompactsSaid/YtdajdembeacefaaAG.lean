/-
  sync.WaitGroup's Wait, as main calls it.
-/
import Derived.Test.YtdajdembeacefaaAF
set_option linter.unusedSimpArgs false
set_option linter.unusedVariables false
namespace Go.Proofs.Ytdajdembeacefaa.M
open Go.Conc
open Go.ConcR (KK WgAt stA smA rd wr mk)

noncomputable def loop30 : Code := match tlC ((Try.f30).body.getD .skip) with
  | .block _ (.loop b) => b
  | c => c
/-- What main goes on with behind Wait: with all blocks its own again. -/
def Cont (Fin : Gh → Goroutine → World → Prop) (c : Frame) (cs : List Frame) (O : Gh) (w : World) : Prop :=
  ∀ O1 w1, Rel x0 O w O1 w1 → Tree P x0 Fin (reset O1) (G (c.finish (.tuple #[])) cs) w1
theorem Cont.rely {Fin : Gh → Goroutine → World → Prop} {c : Frame} {cs : List Frame} {O O1 : Gh} {w w1 : World} (h : Cont Fin c cs O w) (r : Rel x0 O w O1 w1) : Cont Fin c cs O1 w1 :=
  fun O2 w2 r2 => h O2 w2 (r.trans r2)
/-- At the head of Wait's loop. -/
def AnchW (ty : TypeId) (Wg : Nat) (Fin : Gh → Goroutine → World → Prop) (c : Frame) (cs : List Frame) (O : Gh) (g : Goroutine) (w : World) : Prop :=
  O.deaf = 1 ∧ O.tag Wg = .sync ∧ w.shape? Wg = some (ty, 2) ∧ Cont Fin c cs (O.hear 0) w ∧ ∃ f, f 0 = ptr Wg 0 ∧ g = G (Fr (base 30) 84 f [] [.code loop30, .inLoop loop30, .inBlock 0]) (c :: cs)
theorem AnchW.rely {ty : TypeId} {Wg : Nat} {Fin : Gh → Goroutine → World → Prop} {c : Frame} {cs : List Frame} {O O1 : Gh} {g : Goroutine} {w w1 : World} (h : AnchW ty Wg Fin c cs O g w) (r : Rel x0 O w O1 w1) : AnchW ty Wg Fin c cs O1 g w1 := by
  obtain ⟨h1, h2, h3, h4, h5⟩ := h
  have hlt := shape_lt h3
  exact ⟨r.deaf.trans h1, r.sy _ hlt h2, (r.shp _ hlt h2).trans h3, h4.rely (r.hear 0), h5⟩
theorem stN00 (v : Nat) : stN v 0 = (v : Int) * KK := by unfold stN; simp
theorem deafE (O : Gh) (h : O.deaf = 1) : O.hear (deafBehind O.deaf #[⟨.mark .enable, false, true⟩]) = O.hear 0 := by rw [h]; rfl

set_option maxHeartbeats 4000000 in
/-- Behind the enabling: at the word 'acquire', then back to the caller. -/
theorem wait_acq (ty : TypeId) (Wg : Nat) (Fin : Gh → Goroutine → World → Prop) (c : Frame) (cs : List Frame) (O : Gh) (w : World) (hd : O.deaf = 0) (hsy : O.tag Wg = .sync) (hsh : w.shape? Wg = some (ty, 2)) (hc : Cont Fin c cs O w)
    {f : Nat → Value} {all os : List Oper} {k : List Item} {i : Nat} {d d2 : Nat} {y : Operand} {t t2 : TypeId} {p p2 : String} {e e2 : Array Edge} (hy : ev 84 f y = ptr Wg 0) (hd2 : d < 84)
    (hgo : ∀ (W : Goroutine → Prop), Ctl true W → W (G (c.finish (.tuple #[])) cs) → InC W (base 30) 84 (upd (upd f d (ptr Wg 0)) d2 (.tuple #[])) [] all k (c :: cs) (i + 1 + 1) os) :
    InReg P x0 (AtAcq P Wg Fin) O w (base 30) 84 f [] all k (c :: cs) i (⟨some d, .convert 76 78 y, t, p, e, none⟩ :: ⟨some d2, .call { callee := .value (.func 50), args := #[.tmp d], argTypes := #[78] }, t2, p2, e2, none⟩ :: os) := by
  refine t_conv (ts := 61) (ad := ⟨Wg, 0, none⟩) (el := ty) (nn := 2) (by decide) rfl rfl rfl hy rfl hsy hsh (Nat.zero_lt_succ 1) ?_
  refine t_here fun rest ho hgo1 => Tree.stop fun O1 w1 r => ⟨rfl, r.deaf.trans hd, _, st_markAt .acquire (by simp) ho (by decide) Try.func50 nm50 rfl nx50 ex50 (ad := stA Wg) (by simp only [ev, hd2, if_true, upd]; rfl), fun O2 w2 r2 => ?_⟩
  refine hgo1 (fun g => Tree P x0 Fin (reset O2) g w2) _ _ ?_
  exact hgo _ (ctl_tree x0 Fin (reset O2) w2) (hc O2 w2 (r.trans r2))

set_option maxHeartbeats 4000000 in
theorem anch_W1 (ty : TypeId) (Wg : Nat) (Fin : Gh → Goroutine → World → Prop) (c : Frame) (cs : List Frame) (O : Gh) (g : Goroutine) (w : World) (h : AnchW ty Wg Fin c cs O g w) :
    Tree P x0 (AtW1 P ty Wg Fin (AnchW ty Wg Fin c cs)) O g w := by
  obtain ⟨hd, hsy, hsh, hc, f, h0, rfl⟩ := h
  have a0 : Addr.add ⟨Wg, 0, none⟩ 0 = ⟨Wg, 0, none⟩ := add_none _ _ _
  have a1 : Addr.add ⟨Wg, 0, none⟩ 1 = ⟨Wg, 1, none⟩ := add_none _ _ _
  have h0' : f 0 = .pointer (some ⟨Wg, 0, none⟩) := h0
  have hW := ctl_tree x0 (AtW1 P ty Wg Fin (AnchW ty Wg Fin c cs)) O w
  refine c_block hW ?_
  refine c_seq hW ?_
  refine c_region hW ?_
  repeat (first
    | (refine c_skG hW rfl (by decide) rfl ?_)
    | (refine c_skU hW rfl (by decide) rfl ?_)
    | (first | refine c_rdG hW (by decide) rfl (by decide) rfl (fun K hK => ?_) | refine c_rd hW (by decide) (fun K hK => ?_)
       simp only [Xa, Xb, Xc, Xd, Xe, Xf, Xg, Xh, Xi, Xj, Xk, Xl, Xm, Xn, Xo, Xp, Xq, Xr, Xs, Xt, Xu, Xv, Xw, Xx, Xy, Xz, XA, XB, XD, XE, XF, XG, XH, XI, ev, XJ, upd, args1, args2, args3, args4, XK, XL, XM, extL, XN, XO, XP, XQ, XR, XT, XU, XV, XW, XX, XY, XZ, X0, X1, X2, X3, Addr.add, ↓reduceIte, Nat.reduceLT, Nat.reduceEqDiff, Nat.zero_add, Nat.reduceAdd, Option.map_some, X4, List.getElem_toArray, List.getElem_cons_zero, List.getElem_cons_succ, x_nil, nilL_some, Option.isSome_some, x_f61_1, x_f61_2, x_f58_2, x_cv3_56, x_cv56_21, x_cv56_59, x_cv3_21, convL_int, bin_shl64, bin_shr64, bin_andB, h0']
       refine hK _ ?_
       clear hK K))
  refine c_call hW #[.pointer (some ⟨Wg, 0, none⟩)] (by decide) Try.func46 nm46 rfl (by simp only [List.map_toArray, List.map_cons, List.map_nil, Xa, Xb, Xc, Xd, Xe, Xf, Xg, Xh, Xi, Xj, Xk, Xl, Xm, Xn, Xo, Xp, Xq, Xr, Xs, Xt, Xu, Xv, Xw, Xx, Xy, Xz, XA, XB, XD, XE, XF, XG, XH, XI, ev, XJ, upd, args1, args2, args3, args4, XK, XL, XM, extL, XN, XO, XP, XQ, XR, XT, XU, XV, XW, XX, XY, XZ, X0, X1, X2, X3, Addr.add, ↓reduceIte, Nat.reduceLT, Nat.reduceEqDiff, Nat.zero_add, Nat.reduceAdd, Option.map_some, X4, List.getElem_toArray, List.getElem_cons_zero, List.getElem_cons_succ, x_nil, nilL_some, Option.isSome_some, x_f61_1, x_f61_2, x_f58_2, x_cv3_56, x_cv56_21, x_cv56_59, x_cv3_21, convL_int, bin_shl64, bin_shr64, bin_andB, a0]) ?_
  intro c2 hgo
  rw [enter1 _ Try.func46 rfl Try.ntmps46 (by decide)]
  refine c_seq hW ?_
  refine c_region hW ?_
  repeat (first
    | (refine c_skG hW rfl (by decide) rfl ?_)
    | (refine c_skU hW rfl (by decide) rfl ?_)
    | (first | refine c_rdG hW (by decide) rfl (by decide) rfl (fun K hK => ?_) | refine c_rd hW (by decide) (fun K hK => ?_)
       simp only [Xa, Xb, Xc, Xd, Xe, Xf, Xg, Xh, Xi, Xj, Xk, Xl, Xm, Xn, Xo, Xp, Xq, Xr, Xs, Xt, Xu, Xv, Xw, Xx, Xy, Xz, XA, XB, XD, XE, XF, XG, XH, XI, ev, XJ, upd, args1, args2, args3, args4, XK, XL, XM, extL, XN, XO, XP, XQ, XR, XT, XU, XV, XW, XX, XY, XZ, X0, X1, X2, X3, Addr.add, ↓reduceIte, Nat.reduceLT, Nat.reduceEqDiff, Nat.zero_add, Nat.reduceAdd, Option.map_some, X4, List.getElem_toArray, List.getElem_cons_zero, List.getElem_cons_succ, x_nil, nilL_some, Option.isSome_some, x_f61_1, x_f61_2, x_f58_2, x_cv3_56, x_cv56_21, x_cv56_59, x_cv3_21, convL_int, bin_shl64, bin_shr64, bin_andB]
       refine hK _ ?_
       clear hK K))
  refine c_done hW ?_
  refine c_seq hW ?_
  refine c_region hW ?_
  repeat (first
    | (refine c_skG hW rfl (by decide) rfl ?_)
    | (refine c_skU hW rfl (by decide) rfl ?_)
    | (first | refine c_rdG hW (by decide) rfl (by decide) rfl (fun K hK => ?_) | refine c_rd hW (by decide) (fun K hK => ?_)
       simp only [Xa, Xb, Xc, Xd, Xe, Xf, Xg, Xh, Xi, Xj, Xk, Xl, Xm, Xn, Xo, Xp, Xq, Xr, Xs, Xt, Xu, Xv, Xw, Xx, Xy, Xz, XA, XB, XD, XE, XF, XG, XH, XI, ev, XJ, upd, args1, args2, args3, args4, XK, XL, XM, extL, XN, XO, XP, XQ, XR, XT, XU, XV, XW, XX, XY, XZ, X0, X1, X2, X3, Addr.add, ↓reduceIte, Nat.reduceLT, Nat.reduceEqDiff, Nat.zero_add, Nat.reduceAdd, Option.map_some, X4, List.getElem_toArray, List.getElem_cons_zero, List.getElem_cons_succ, x_nil, nilL_some, Option.isSome_some, x_f61_1, x_f61_2, x_f58_2, x_cv3_56, x_cv56_21, x_cv56_59, x_cv3_21, convL_int, bin_shl64, bin_shr64, bin_andB]
       refine hK _ ?_
       clear hK K))
  clear hW
  refine t_here fun rest ho hgo1 => Tree.stop fun O1 w1 r => ⟨rfl, fun v hv hw => ⟨_, st_load ho (by decide) Try.func58 nm58 rfl nx58 ex58 (ad := stA Wg) (by simp only [Xa, Xb, Xc, Xd, Xe, Xf, Xg, Xh, Xi, Xj, Xk, Xl, Xm, Xn, Xo, Xp, Xq, Xr, Xs, Xt, Xu, Xv, Xw, Xx, Xy, Xz, XA, XB, XD, XE, XF, XG, XH, XI, ev, XJ, upd, args1, args2, args3, args4, XK, XL, XM, extL, XN, XO, XP, XQ, XR, XT, XU, XV, XW, XX, XY, XZ, X0, X1, X2, X3, Addr.add, ↓reduceIte, Nat.reduceLT, Nat.reduceEqDiff, Nat.zero_add, Nat.reduceAdd, Option.map_some, X4, List.getElem_toArray, List.getElem_cons_zero, List.getElem_cons_succ, x_nil, nilL_some, Option.isSome_some, x_f61_1, x_f61_2, x_f58_2, x_cv3_56, x_cv56_21, x_cv56_59, x_cv3_21, convL_int, bin_shl64, bin_shr64, bin_andB, a0]; rfl) hw.cellSt, ?_, ?_⟩⟩
  all_goals
    have hlt := shape_lt hsh
    have hsy1 : O1.tag Wg = .sync := r.sy _ hlt hsy
    have hsh1 : w1.shape? Wg = some (ty, 2) := (r.shp _ hlt hsy).trans hsh
    have hd1 : O1.deaf = 1 := r.deaf.trans hd
    have hc1 : Cont Fin c cs (O1.hear 0) w1 := hc.rely (r.hear 0)
    have e1 := st_fl v 0 hv (by omega)
    have e2 := st_wt v 0 hv (by omega)
    have e3 := st_fdiv v 0 (by omega)
    have e4 := st_i32 v hv
    have e5 := st_u32 0 (by omega)
    rw [stN00] at e1 e2 e3
    have e7 : (((0 : Nat) : Int) == 0) = true := by decide
  · intro hv0
    subst hv0
    have e8 : (((0 : Nat) : Int) == 0) = true := by decide
    refine hgo1 (fun g => Tree P x0 (AtAcq P Wg Fin) O1 g w1) _ _ ?_
    have hW := ctl_tree x0 (AtAcq P Wg Fin) O1 w1
    repeat (first
      | (refine c_skG hW rfl (by decide) rfl ?_)
      | (refine c_skU hW rfl (by decide) rfl ?_)
      | (first | refine c_rdG hW (by decide) rfl (by decide) rfl (fun K hK => ?_) | refine c_rd hW (by decide) (fun K hK => ?_)
         simp only [Xa, Xb, Xc, Xd, Xe, Xf, Xg, Xh, Xi, Xj, Xk, Xl, Xm, Xn, Xo, Xp, Xq, Xr, Xs, Xt, Xu, Xv, Xw, Xx, Xy, Xz, XA, XB, XD, XE, XF, XG, XH, XI, ev, XJ, upd, args1, args2, args3, args4, XK, XL, XM, extL, XN, XO, XP, XQ, XR, XT, XU, XV, XW, XX, XY, XZ, X0, X1, X2, X3, Addr.add, ↓reduceIte, Nat.reduceLT, Nat.reduceEqDiff, Nat.zero_add, Nat.reduceAdd, Option.map_some, X4, List.getElem_toArray, List.getElem_cons_zero, List.getElem_cons_succ, x_nil, nilL_some, Option.isSome_some, x_f61_1, x_f61_2, x_f58_2, x_cv3_56, x_cv56_21, x_cv56_59, x_cv3_21, convL_int, bin_shl64, bin_shr64, bin_andB]
         refine hK _ ?_
         clear hK K))
    refine c_done hW ?_
    refine c_ret hW ?_
    refine c_leave1 hW rfl Try.func46 Try.results46 ?_
    refine hgo (fun g => Tree P x0 (AtAcq P Wg Fin) O1 g w1) _ ?_
    repeat (first
      | (refine c_skG hW rfl (by decide) rfl ?_)
      | (refine c_skU hW rfl (by decide) rfl ?_)
      | (first | refine c_rdG hW (by decide) rfl (by decide) rfl (fun K hK => ?_) | refine c_rd hW (by decide) (fun K hK => ?_)
         simp only [Xa, Xb, Xc, Xd, Xe, Xf, Xg, Xh, Xi, Xj, Xk, Xl, Xm, Xn, Xo, Xp, Xq, Xr, Xs, Xt, Xu, Xv, Xw, Xx, Xy, Xz, XA, XB, XD, XE, XF, XG, XH, XI, ev, XJ, upd, args1, args2, args3, args4, XK, XL, XM, extL, XN, XO, XP, XQ, XR, XT, XU, XV, XW, XX, XY, XZ, X0, X1, X2, X3, Addr.add, ↓reduceIte, Nat.reduceLT, Nat.reduceEqDiff, Nat.zero_add, Nat.reduceAdd, Option.map_some, X4, List.getElem_toArray, List.getElem_cons_zero, List.getElem_cons_succ, x_nil, nilL_some, Option.isSome_some, x_f61_1, x_f61_2, x_f58_2, x_cv3_56, x_cv56_21, x_cv56_59, x_cv3_21, convL_int, bin_shl64, bin_shr64, bin_andB]
         refine hK _ ?_
         clear hK K))
    refine c_done hW ?_
    refine c_seq hW ?_
    refine c_region hW ?_
    repeat (first
      | (refine c_skG hW rfl (by decide) rfl ?_)
      | (refine c_skU hW rfl (by decide) rfl ?_)
      | (first | refine c_rdG hW (by decide) rfl (by decide) rfl (fun K hK => ?_) | refine c_rd hW (by decide) (fun K hK => ?_)
         simp only [Xa, Xb, Xc, Xd, Xe, Xf, Xg, Xh, Xi, Xj, Xk, Xl, Xm, Xn, Xo, Xp, Xq, Xr, Xs, Xt, Xu, Xv, Xw, Xx, Xy, Xz, XA, XB, XD, XE, XF, XG, XH, XI, ev, XJ, upd, args1, args2, args3, args4, XK, XL, XM, extL, XN, XO, XP, XQ, XR, XT, XU, XV, XW, XX, XY, XZ, X0, X1, X2, X3, Addr.add, ↓reduceIte, Nat.reduceLT, Nat.reduceEqDiff, Nat.zero_add, Nat.reduceAdd, Option.map_some, X4, List.getElem_toArray, List.getElem_cons_zero, List.getElem_cons_succ, x_nil, nilL_some, Option.isSome_some, x_f61_1, x_f61_2, x_f58_2, x_cv3_56, x_cv56_21, x_cv56_59, x_cv3_21, convL_int, bin_shl64, bin_shr64, bin_andB, e3, e4]
         refine hK _ ?_
         clear hK K))
    refine c_done hW ?_
    refine c_seq hW ?_
    refine c_region hW ?_
    repeat (first
      | (refine c_skG hW rfl (by decide) rfl ?_)
      | (refine c_skU hW rfl (by decide) rfl ?_)
      | (first | refine c_rdG hW (by decide) rfl (by decide) rfl (fun K hK => ?_) | refine c_rd hW (by decide) (fun K hK => ?_)
         simp only [Xa, Xb, Xc, Xd, Xe, Xf, Xg, Xh, Xi, Xj, Xk, Xl, Xm, Xn, Xo, Xp, Xq, Xr, Xs, Xt, Xu, Xv, Xw, Xx, Xy, Xz, XA, XB, XD, XE, XF, XG, XH, XI, ev, XJ, upd, args1, args2, args3, args4, XK, XL, XM, extL, XN, XO, XP, XQ, XR, XT, XU, XV, XW, XX, XY, XZ, X0, X1, X2, X3, Addr.add, ↓reduceIte, Nat.reduceLT, Nat.reduceEqDiff, Nat.zero_add, Nat.reduceAdd, Option.map_some, X4, List.getElem_toArray, List.getElem_cons_zero, List.getElem_cons_succ, x_nil, nilL_some, Option.isSome_some, x_f61_1, x_f61_2, x_f58_2, x_cv3_56, x_cv56_21, x_cv56_59, x_cv3_21, convL_int, bin_shl64, bin_shr64, bin_andB, e2, e5]
         refine hK _ ?_
         clear hK K))
    refine c_done hW ?_
    refine c_seq hW ?_
    refine c_seq hW ?_
    refine c_region hW ?_
    repeat (first
      | (refine c_skG hW rfl (by decide) rfl ?_)
      | (refine c_skU hW rfl (by decide) rfl ?_)
      | (first | refine c_rdG hW (by decide) rfl (by decide) rfl (fun K hK => ?_) | refine c_rd hW (by decide) (fun K hK => ?_)
         simp only [Xa, Xb, Xc, Xd, Xe, Xf, Xg, Xh, Xi, Xj, Xk, Xl, Xm, Xn, Xo, Xp, Xq, Xr, Xs, Xt, Xu, Xv, Xw, Xx, Xy, Xz, XA, XB, XD, XE, XF, XG, XH, XI, ev, XJ, upd, args1, args2, args3, args4, XK, XL, XM, extL, XN, XO, XP, XQ, XR, XT, XU, XV, XW, XX, XY, XZ, X0, X1, X2, X3, Addr.add, ↓reduceIte, Nat.reduceLT, Nat.reduceEqDiff, Nat.zero_add, Nat.reduceAdd, Option.map_some, X4, List.getElem_toArray, List.getElem_cons_zero, List.getElem_cons_succ, x_nil, nilL_some, Option.isSome_some, x_f61_1, x_f61_2, x_f58_2, x_cv3_56, x_cv56_21, x_cv56_59, x_cv3_21, convL_int, bin_shl64, bin_shr64, bin_andB, e8]
         refine hK _ ?_
         clear hK K))
    refine c_done hW ?_
    refine c_true hW rfl ?_
    refine c_seq hW ?_
    refine c_true hW rfl ?_
    refine c_seq hW ?_
    refine c_region hW ?_
    clear hW
    refine t_mark0 .enable (.inr rfl) (by decide) Try.func39 nm39 rfl nx39 ex39 ?_
    rw [deafE O1 hd1]
    refine t_done ?_
    refine t_region ?_
    iterate 1 (first
      | (refine t_skG rfl (by decide) rfl ?_)
      | (refine t_skU rfl (by decide) rfl ?_)
      | (first | refine t_rdG (by decide) rfl (by decide) rfl (fun K hK => ?_) | refine t_rd (by decide) (fun K hK => ?_)
         simp only [Xa, Xb, Xc, Xd, Xe, Xf, Xg, Xh, Xi, Xj, Xk, Xl, Xm, Xn, Xo, Xp, Xq, Xr, Xs, Xt, Xu, Xv, Xw, Xx, Xy, Xz, XA, XB, XD, XE, XF, XG, XH, XI, ev, XJ, upd, args1, args2, args3, args4, XK, XL, XM, extL, XN, XO, XP, XQ, XR, XT, XU, XV, XW, XX, XY, XZ, X0, X1, X2, X3, Addr.add, ↓reduceIte, Nat.reduceLT, Nat.reduceEqDiff, Nat.zero_add, Nat.reduceAdd, Option.map_some, X4, List.getElem_toArray, List.getElem_cons_zero, List.getElem_cons_succ, h0']
         refine hK _ ?_
         clear hK K))
    refine wait_acq ty Wg Fin c cs (O1.hear 0) w1 rfl hsy1 hsh1 hc1 rfl (by decide) ?_
    intro W hW hfin
    refine c_done hW ?_
    refine c_seq hW ?_
    refine c_seq hW ?_
    refine c_region hW ?_
    repeat (first
      | (refine c_skG hW rfl (by decide) rfl ?_)
      | (refine c_skU hW rfl (by decide) rfl ?_)
      | (first | refine c_rdG hW (by decide) rfl (by decide) rfl (fun K hK => ?_) | refine c_rd hW (by decide) (fun K hK => ?_)
         simp only [Xa, Xb, Xc, Xd, Xe, Xf, Xg, Xh, Xi, Xj, Xk, Xl, Xm, Xn, Xo, Xp, Xq, Xr, Xs, Xt, Xu, Xv, Xw, Xx, Xy, Xz, XA, XB, XD, XE, XF, XG, XH, XI, ev, XJ, upd, args1, args2, args3, args4, XK, XL, XM, extL, XN, XO, XP, XQ, XR, XT, XU, XV, XW, XX, XY, XZ, X0, X1, X2, X3, Addr.add, ↓reduceIte, Nat.reduceLT, Nat.reduceEqDiff, Nat.zero_add, Nat.reduceAdd, Option.map_some, X4, List.getElem_toArray, List.getElem_cons_zero, List.getElem_cons_succ, x_nil, nilL_some, Option.isSome_some, x_f61_1, x_f61_2, x_f58_2, x_cv3_56, x_cv56_21, x_cv56_59, x_cv3_21, convL_int, bin_shl64, bin_shr64, bin_andB, e7, e1, bne00]
         refine hK _ ?_
         clear hK K))
    refine c_done hW ?_
    refine c_false hW rfl ?_
    refine c_skip hW ?_
    refine c_ret hW ?_
    exact c_leave0 hW rfl Try.func30 Try.results30 hfin
  · intro hv0
    have e8 : ((v : Int) == 0) = false := by simp; omega
    refine hgo1 (fun g => Tree P x0 (AtW2 P ty Wg Fin (AnchW ty Wg Fin c cs) v) O1 g w1) _ _ ?_
    have hW := ctl_tree x0 (AtW2 P ty Wg Fin (AnchW ty Wg Fin c cs) v) O1 w1
    repeat (first
      | (refine c_skG hW rfl (by decide) rfl ?_)
      | (refine c_skU hW rfl (by decide) rfl ?_)
      | (first | refine c_rdG hW (by decide) rfl (by decide) rfl (fun K hK => ?_) | refine c_rd hW (by decide) (fun K hK => ?_)
         simp only [Xa, Xb, Xc, Xd, Xe, Xf, Xg, Xh, Xi, Xj, Xk, Xl, Xm, Xn, Xo, Xp, Xq, Xr, Xs, Xt, Xu, Xv, Xw, Xx, Xy, Xz, XA, XB, XD, XE, XF, XG, XH, XI, ev, XJ, upd, args1, args2, args3, args4, XK, XL, XM, extL, XN, XO, XP, XQ, XR, XT, XU, XV, XW, XX, XY, XZ, X0, X1, X2, X3, Addr.add, ↓reduceIte, Nat.reduceLT, Nat.reduceEqDiff, Nat.zero_add, Nat.reduceAdd, Option.map_some, X4, List.getElem_toArray, List.getElem_cons_zero, List.getElem_cons_succ, x_nil, nilL_some, Option.isSome_some, x_f61_1, x_f61_2, x_f58_2, x_cv3_56, x_cv56_21, x_cv56_59, x_cv3_21, convL_int, bin_shl64, bin_shr64, bin_andB]
         refine hK _ ?_
         clear hK K))
    refine c_done hW ?_
    refine c_ret hW ?_
    refine c_leave1 hW rfl Try.func46 Try.results46 ?_
    refine hgo (fun g => Tree P x0 (AtW2 P ty Wg Fin (AnchW ty Wg Fin c cs) v) O1 g w1) _ ?_
    repeat (first
      | (refine c_skG hW rfl (by decide) rfl ?_)
      | (refine c_skU hW rfl (by decide) rfl ?_)
      | (first | refine c_rdG hW (by decide) rfl (by decide) rfl (fun K hK => ?_) | refine c_rd hW (by decide) (fun K hK => ?_)
         simp only [Xa, Xb, Xc, Xd, Xe, Xf, Xg, Xh, Xi, Xj, Xk, Xl, Xm, Xn, Xo, Xp, Xq, Xr, Xs, Xt, Xu, Xv, Xw, Xx, Xy, Xz, XA, XB, XD, XE, XF, XG, XH, XI, ev, XJ, upd, args1, args2, args3, args4, XK, XL, XM, extL, XN, XO, XP, XQ, XR, XT, XU, XV, XW, XX, XY, XZ, X0, X1, X2, X3, Addr.add, ↓reduceIte, Nat.reduceLT, Nat.reduceEqDiff, Nat.zero_add, Nat.reduceAdd, Option.map_some, X4, List.getElem_toArray, List.getElem_cons_zero, List.getElem_cons_succ, x_nil, nilL_some, Option.isSome_some, x_f61_1, x_f61_2, x_f58_2, x_cv3_56, x_cv56_21, x_cv56_59, x_cv3_21, convL_int, bin_shl64, bin_shr64, bin_andB]
         refine hK _ ?_
         clear hK K))
    refine c_done hW ?_
    refine c_seq hW ?_
    refine c_region hW ?_
    repeat (first
      | (refine c_skG hW rfl (by decide) rfl ?_)
      | (refine c_skU hW rfl (by decide) rfl ?_)
      | (first | refine c_rdG hW (by decide) rfl (by decide) rfl (fun K hK => ?_) | refine c_rd hW (by decide) (fun K hK => ?_)
         simp only [Xa, Xb, Xc, Xd, Xe, Xf, Xg, Xh, Xi, Xj, Xk, Xl, Xm, Xn, Xo, Xp, Xq, Xr, Xs, Xt, Xu, Xv, Xw, Xx, Xy, Xz, XA, XB, XD, XE, XF, XG, XH, XI, ev, XJ, upd, args1, args2, args3, args4, XK, XL, XM, extL, XN, XO, XP, XQ, XR, XT, XU, XV, XW, XX, XY, XZ, X0, X1, X2, X3, Addr.add, ↓reduceIte, Nat.reduceLT, Nat.reduceEqDiff, Nat.zero_add, Nat.reduceAdd, Option.map_some, X4, List.getElem_toArray, List.getElem_cons_zero, List.getElem_cons_succ, x_nil, nilL_some, Option.isSome_some, x_f61_1, x_f61_2, x_f58_2, x_cv3_56, x_cv56_21, x_cv56_59, x_cv3_21, convL_int, bin_shl64, bin_shr64, bin_andB, e3, e4]
         refine hK _ ?_
         clear hK K))
    refine c_done hW ?_
    refine c_seq hW ?_
    refine c_region hW ?_
    repeat (first
      | (refine c_skG hW rfl (by decide) rfl ?_)
      | (refine c_skU hW rfl (by decide) rfl ?_)
      | (first | refine c_rdG hW (by decide) rfl (by decide) rfl (fun K hK => ?_) | refine c_rd hW (by decide) (fun K hK => ?_)
         simp only [Xa, Xb, Xc, Xd, Xe, Xf, Xg, Xh, Xi, Xj, Xk, Xl, Xm, Xn, Xo, Xp, Xq, Xr, Xs, Xt, Xu, Xv, Xw, Xx, Xy, Xz, XA, XB, XD, XE, XF, XG, XH, XI, ev, XJ, upd, args1, args2, args3, args4, XK, XL, XM, extL, XN, XO, XP, XQ, XR, XT, XU, XV, XW, XX, XY, XZ, X0, X1, X2, X3, Addr.add, ↓reduceIte, Nat.reduceLT, Nat.reduceEqDiff, Nat.zero_add, Nat.reduceAdd, Option.map_some, X4, List.getElem_toArray, List.getElem_cons_zero, List.getElem_cons_succ, x_nil, nilL_some, Option.isSome_some, x_f61_1, x_f61_2, x_f58_2, x_cv3_56, x_cv56_21, x_cv56_59, x_cv3_21, convL_int, bin_shl64, bin_shr64, bin_andB, e2, e5]
         refine hK _ ?_
         clear hK K))
    refine c_done hW ?_
    refine c_seq hW ?_
    refine c_seq hW ?_
    refine c_region hW ?_
    repeat (first
      | (refine c_skG hW rfl (by decide) rfl ?_)
      | (refine c_skU hW rfl (by decide) rfl ?_)
      | (first | refine c_rdG hW (by decide) rfl (by decide) rfl (fun K hK => ?_) | refine c_rd hW (by decide) (fun K hK => ?_)
         simp only [Xa, Xb, Xc, Xd, Xe, Xf, Xg, Xh, Xi, Xj, Xk, Xl, Xm, Xn, Xo, Xp, Xq, Xr, Xs, Xt, Xu, Xv, Xw, Xx, Xy, Xz, XA, XB, XD, XE, XF, XG, XH, XI, ev, XJ, upd, args1, args2, args3, args4, XK, XL, XM, extL, XN, XO, XP, XQ, XR, XT, XU, XV, XW, XX, XY, XZ, X0, X1, X2, X3, Addr.add, ↓reduceIte, Nat.reduceLT, Nat.reduceEqDiff, Nat.zero_add, Nat.reduceAdd, Option.map_some, X4, List.getElem_toArray, List.getElem_cons_zero, List.getElem_cons_succ, x_nil, nilL_some, Option.isSome_some, x_f61_1, x_f61_2, x_f58_2, x_cv3_56, x_cv56_21, x_cv56_59, x_cv3_21, convL_int, bin_shl64, bin_shr64, bin_andB, e8]
         refine hK _ ?_
         clear hK K))
    refine c_done hW ?_
    refine c_false hW rfl ?_
    refine c_skip hW ?_
    refine c_seq hW ?_
    refine c_region hW ?_
    have e9 : IntKind.u64.wrap ((v : Int) * KK + 1) = (v : Int) * KK + 1 := by rw [IntKind.wrap_u64]; unfold KK; omega
    repeat (first
      | (refine c_skG hW rfl (by decide) rfl ?_)
      | (refine c_skU hW rfl (by decide) rfl ?_)
      | (first | refine c_rdG hW (by decide) rfl (by decide) rfl (fun K hK => ?_) | refine c_rd hW (by decide) (fun K hK => ?_)
         simp only [Xa, Xb, Xc, Xd, Xe, Xf, Xg, Xh, Xi, Xj, Xk, Xl, Xm, Xn, Xo, Xp, Xq, Xr, Xs, Xt, Xu, Xv, Xw, Xx, Xy, Xz, XA, XB, XD, XE, XF, XG, XH, XI, ev, XJ, upd, args1, args2, args3, args4, XK, XL, XM, extL, XN, XO, XP, XQ, XR, XT, XU, XV, XW, XX, XY, XZ, X0, X1, X2, X3, Addr.add, ↓reduceIte, Nat.reduceLT, Nat.reduceEqDiff, Nat.zero_add, Nat.reduceAdd, Option.map_some, X4, List.getElem_toArray, List.getElem_cons_zero, List.getElem_cons_succ, x_nil, nilL_some, Option.isSome_some, x_f61_1, x_f61_2, x_f58_2, x_cv3_56, x_cv56_21, x_cv56_59, x_cv3_21, convL_int, bin_shl64, bin_shr64, bin_andB, h0', e9]
         refine hK _ ?_
         clear hK K))
    refine c_call hW #[.pointer (some ⟨Wg, 0, none⟩), .int .u64 ((v : Int) * KK), .int .u64 ((v : Int) * KK + 1)] (by decide) Try.func52 nm52 rfl (by simp only [List.map_toArray, List.map_cons, List.map_nil, Xa, Xb, Xc, Xd, Xe, Xf, Xg, Xh, Xi, Xj, Xk, Xl, Xm, Xn, Xo, Xp, Xq, Xr, Xs, Xt, Xu, Xv, Xw, Xx, Xy, Xz, XA, XB, XD, XE, XF, XG, XH, XI, ev, XJ, upd, args1, args2, args3, args4, XK, XL, XM, extL, XN, XO, XP, XQ, XR, XT, XU, XV, XW, XX, XY, XZ, X0, X1, X2, X3, Addr.add, ↓reduceIte, Nat.reduceLT, Nat.reduceEqDiff, Nat.zero_add, Nat.reduceAdd, Option.map_some, X4, List.getElem_toArray, List.getElem_cons_zero, List.getElem_cons_succ, x_nil, nilL_some, Option.isSome_some, x_f61_1, x_f61_2, x_f58_2, x_cv3_56, x_cv56_21, x_cv56_59, x_cv3_21, convL_int, bin_shl64, bin_shr64, bin_andB, a0]) ?_
    clear hgo hgo1 ho rest c2
    intro c2 hgo
    rw [enter3 _ _ _ Try.func52 rfl Try.ntmps52 (by decide)]
    refine c_seq hW ?_
    refine c_region hW ?_
    repeat (first
      | (refine c_skG hW rfl (by decide) rfl ?_)
      | (refine c_skU hW rfl (by decide) rfl ?_)
      | (first | refine c_rdG hW (by decide) rfl (by decide) rfl (fun K hK => ?_) | refine c_rd hW (by decide) (fun K hK => ?_)
         simp only [Xa, Xb, Xc, Xd, Xe, Xf, Xg, Xh, Xi, Xj, Xk, Xl, Xm, Xn, Xo, Xp, Xq, Xr, Xs, Xt, Xu, Xv, Xw, Xx, Xy, Xz, XA, XB, XD, XE, XF, XG, XH, XI, ev, XJ, upd, args1, args2, args3, args4, XK, XL, XM, extL, XN, XO, XP, XQ, XR, XT, XU, XV, XW, XX, XY, XZ, X0, X1, X2, X3, Addr.add, ↓reduceIte, Nat.reduceLT, Nat.reduceEqDiff, Nat.zero_add, Nat.reduceAdd, Option.map_some, X4, List.getElem_toArray, List.getElem_cons_zero, List.getElem_cons_succ, x_nil, nilL_some, Option.isSome_some, x_f61_1, x_f61_2, x_f58_2, x_cv3_56, x_cv56_21, x_cv56_59, x_cv3_21, convL_int, bin_shl64, bin_shr64, bin_andB]
         refine hK _ ?_
         clear hK K))
    refine c_done hW ?_
    refine c_seq hW ?_
    refine c_region hW ?_
    repeat (first
      | (refine c_skG hW rfl (by decide) rfl ?_)
      | (refine c_skU hW rfl (by decide) rfl ?_)
      | (first | refine c_rdG hW (by decide) rfl (by decide) rfl (fun K hK => ?_) | refine c_rd hW (by decide) (fun K hK => ?_)
         simp only [Xa, Xb, Xc, Xd, Xe, Xf, Xg, Xh, Xi, Xj, Xk, Xl, Xm, Xn, Xo, Xp, Xq, Xr, Xs, Xt, Xu, Xv, Xw, Xx, Xy, Xz, XA, XB, XD, XE, XF, XG, XH, XI, ev, XJ, upd, args1, args2, args3, args4, XK, XL, XM, extL, XN, XO, XP, XQ, XR, XT, XU, XV, XW, XX, XY, XZ, X0, X1, X2, X3, Addr.add, ↓reduceIte, Nat.reduceLT, Nat.reduceEqDiff, Nat.zero_add, Nat.reduceAdd, Option.map_some, X4, List.getElem_toArray, List.getElem_cons_zero, List.getElem_cons_succ, x_nil, nilL_some, Option.isSome_some, x_f61_1, x_f61_2, x_f58_2, x_cv3_56, x_cv56_21, x_cv56_59, x_cv3_21, convL_int, bin_shl64, bin_shr64, bin_andB]
         refine hK _ ?_
         clear hK K))
    clear hW
    refine t_here fun rest ho hgo1 => Tree.stop fun O2 w2 r2 => ⟨rfl, fun v' hv' hw' => ⟨fun hvv => ?_, fun hvv => ?_⟩⟩
    all_goals
      have hlt2 := shape_lt hsh1
      have hsy2 : O2.tag Wg = .sync := r2.sy _ hlt2 hsy1
      have hsh2 : w2.shape? Wg = some (ty, 2) := (r2.shp _ hlt2 hsy1).trans hsh1
      have hd2 : O2.deaf = 1 := r2.deaf.trans hd1
      have hc2 : Cont Fin c cs (O2.hear 0) w2 := hc1.rely (r2.hear 0)
    · subst hvv
      refine ⟨_, st_cas ho (by decide) Try.func60 nm60 rfl nx60 ex60 (ad := stA Wg) (v := (v' : Int) * KK) (nw := (v' : Int) * KK + 1) (by simp only [Xa, Xb, Xc, Xd, Xe, Xf, Xg, Xh, Xi, Xj, Xk, Xl, Xm, Xn, Xo, Xp, Xq, Xr, Xs, Xt, Xu, Xv, Xw, Xx, Xy, Xz, XA, XB, XD, XE, XF, XG, XH, XI, ev, XJ, upd, args1, args2, args3, args4, XK, XL, XM, extL, XN, XO, XP, XQ, XR, XT, XU, XV, XW, XX, XY, XZ, X0, X1, X2, X3, Addr.add, ↓reduceIte, Nat.reduceLT, Nat.reduceEqDiff, Nat.zero_add, Nat.reduceAdd, Option.map_some, X4, List.getElem_toArray, List.getElem_cons_zero, List.getElem_cons_succ, x_nil, nilL_some, Option.isSome_some, x_f61_1, x_f61_2, x_f58_2, x_cv3_56, x_cv56_21, x_cv56_59, x_cv3_21, convL_int, bin_shl64, bin_shr64, bin_andB, a0]; rfl) (by simp only [Xa, Xb, Xc, Xd, Xe, Xf, Xg, Xh, Xi, Xj, Xk, Xl, Xm, Xn, Xo, Xp, Xq, Xr, Xs, Xt, Xu, Xv, Xw, Xx, Xy, Xz, XA, XB, XD, XE, XF, XG, XH, XI, ev, XJ, upd, args1, args2, args3, args4, XK, XL, XM, extL, XN, XO, XP, XQ, XR, XT, XU, XV, XW, XX, XY, XZ, X0, X1, X2, X3, Addr.add, ↓reduceIte, Nat.reduceLT, Nat.reduceEqDiff, Nat.zero_add, Nat.reduceAdd, Option.map_some, X4, List.getElem_toArray, List.getElem_cons_zero, List.getElem_cons_succ, x_nil, nilL_some, Option.isSome_some, x_f61_1, x_f61_2, x_f58_2, x_cv3_56, x_cv56_21, x_cv56_59, x_cv3_21, convL_int, bin_shl64, bin_shr64, bin_andB]) (by simp only [Xa, Xb, Xc, Xd, Xe, Xf, Xg, Xh, Xi, Xj, Xk, Xl, Xm, Xn, Xo, Xp, Xq, Xr, Xs, Xt, Xu, Xv, Xw, Xx, Xy, Xz, XA, XB, XD, XE, XF, XG, XH, XI, ev, XJ, upd, args1, args2, args3, args4, XK, XL, XM, extL, XN, XO, XP, XQ, XR, XT, XU, XV, XW, XX, XY, XZ, X0, X1, X2, X3, Addr.add, ↓reduceIte, Nat.reduceLT, Nat.reduceEqDiff, Nat.zero_add, Nat.reduceAdd, Option.map_some, X4, List.getElem_toArray, List.getElem_cons_zero, List.getElem_cons_succ, x_nil, nilL_some, Option.isSome_some, x_f61_1, x_f61_2, x_f58_2, x_cv3_56, x_cv56_21, x_cv56_59, x_cv3_21, convL_int, bin_shl64, bin_shr64, bin_andB]) hw'.cellSt (hw'.thaw 0), ?_⟩
      have hsh3 : (w2.setCell (stA Wg) (.int .u64 ((v' : Int) * KK + 1))).shape? Wg = some (ty, 2) := by rw [shape_setCell]; exact hsh2
      have hc3 : Cont Fin c cs (O2.hear 0) (w2.setCell (stA Wg) (.int .u64 ((v' : Int) * KK + 1))) := hc2.rely ((Rel.refl x0 (O2.hear 0) w2).setSync _ hsy2)
      generalize (w2.setCell (stA Wg) (.int .u64 ((v' : Int) * KK + 1))) = w3 at hsh3 hc3
      refine hgo1 (fun g => Tree P x0 (AtW3 P ty Wg Fin) O2 g w3) _ _ ?_
      have hW := ctl_tree x0 (AtW3 P ty Wg Fin) O2 w3
      repeat (first
        | (refine c_skG hW rfl (by decide) rfl ?_)
        | (refine c_skU hW rfl (by decide) rfl ?_)
        | (first | refine c_rdG hW (by decide) rfl (by decide) rfl (fun K hK => ?_) | refine c_rd hW (by decide) (fun K hK => ?_)
           simp only [Xa, Xb, Xc, Xd, Xe, Xf, Xg, Xh, Xi, Xj, Xk, Xl, Xm, Xn, Xo, Xp, Xq, Xr, Xs, Xt, Xu, Xv, Xw, Xx, Xy, Xz, XA, XB, XD, XE, XF, XG, XH, XI, ev, XJ, upd, args1, args2, args3, args4, XK, XL, XM, extL, XN, XO, XP, XQ, XR, XT, XU, XV, XW, XX, XY, XZ, X0, X1, X2, X3, Addr.add, ↓reduceIte, Nat.reduceLT, Nat.reduceEqDiff, Nat.zero_add, Nat.reduceAdd, Option.map_some, X4, List.getElem_toArray, List.getElem_cons_zero, List.getElem_cons_succ, x_nil, nilL_some, Option.isSome_some, x_f61_1, x_f61_2, x_f58_2, x_cv3_56, x_cv56_21, x_cv56_59, x_cv3_21, convL_int, bin_shl64, bin_shr64, bin_andB]
           refine hK _ ?_
           clear hK K))
      refine c_done hW ?_
      refine c_ret hW ?_
      refine c_leave1 hW rfl Try.func52 Try.results52 ?_
      refine hgo (fun g => Tree P x0 (AtW3 P ty Wg Fin) O2 g w3) _ ?_
      clear hgo hgo1 ho rest c2 hw'
      repeat (first
        | (refine c_skG hW rfl (by decide) rfl ?_)
        | (refine c_skU hW rfl (by decide) rfl ?_)
        | (first | refine c_rdG hW (by decide) rfl (by decide) rfl (fun K hK => ?_) | refine c_rd hW (by decide) (fun K hK => ?_)
           simp only [Xa, Xb, Xc, Xd, Xe, Xf, Xg, Xh, Xi, Xj, Xk, Xl, Xm, Xn, Xo, Xp, Xq, Xr, Xs, Xt, Xu, Xv, Xw, Xx, Xy, Xz, XA, XB, XD, XE, XF, XG, XH, XI, ev, XJ, upd, args1, args2, args3, args4, XK, XL, XM, extL, XN, XO, XP, XQ, XR, XT, XU, XV, XW, XX, XY, XZ, X0, X1, X2, X3, Addr.add, ↓reduceIte, Nat.reduceLT, Nat.reduceEqDiff, Nat.zero_add, Nat.reduceAdd, Option.map_some, X4, List.getElem_toArray, List.getElem_cons_zero, List.getElem_cons_succ, x_nil, nilL_some, Option.isSome_some, x_f61_1, x_f61_2, x_f58_2, x_cv3_56, x_cv56_21, x_cv56_59, x_cv3_21, convL_int, bin_shl64, bin_shr64, bin_andB]
           refine hK _ ?_
           clear hK K))
      refine c_done hW ?_
      refine c_true hW rfl ?_
      refine c_seq hW ?_
      refine c_seq hW ?_
      refine c_region hW ?_
      repeat (first
        | (refine c_skG hW rfl (by decide) rfl ?_)
        | (refine c_skU hW rfl (by decide) rfl ?_)
        | (first | refine c_rdG hW (by decide) rfl (by decide) rfl (fun K hK => ?_) | refine c_rd hW (by decide) (fun K hK => ?_)
           simp only [Xa, Xb, Xc, Xd, Xe, Xf, Xg, Xh, Xi, Xj, Xk, Xl, Xm, Xn, Xo, Xp, Xq, Xr, Xs, Xt, Xu, Xv, Xw, Xx, Xy, Xz, XA, XB, XD, XE, XF, XG, XH, XI, ev, XJ, upd, args1, args2, args3, args4, XK, XL, XM, extL, XN, XO, XP, XQ, XR, XT, XU, XV, XW, XX, XY, XZ, X0, X1, X2, X3, Addr.add, ↓reduceIte, Nat.reduceLT, Nat.reduceEqDiff, Nat.zero_add, Nat.reduceAdd, Option.map_some, X4, List.getElem_toArray, List.getElem_cons_zero, List.getElem_cons_succ, x_nil, nilL_some, Option.isSome_some, x_f61_1, x_f61_2, x_f58_2, x_cv3_56, x_cv56_21, x_cv56_59, x_cv3_21, convL_int, bin_shl64, bin_shr64, bin_andB, e7]
           refine hK _ ?_
           clear hK K))
      refine c_done hW ?_
      refine c_true hW rfl ?_
      refine c_region hW ?_
      iterate 3 (first
        | (refine c_skG hW rfl (by decide) rfl ?_)
        | (refine c_skU hW rfl (by decide) rfl ?_)
        | (first | refine c_rdG hW (by decide) rfl (by decide) rfl (fun K hK => ?_) | refine c_rd hW (by decide) (fun K hK => ?_)
           simp only [Xa, Xb, Xc, Xd, Xe, Xf, Xg, Xh, Xi, Xj, Xk, Xl, Xm, Xn, Xo, Xp, Xq, Xr, Xs, Xt, Xu, Xv, Xw, Xx, Xy, Xz, XA, XB, XD, XE, XF, XG, XH, XI, ev, XJ, upd, args1, args2, args3, args4, XK, XL, XM, extL, XN, XO, XP, XQ, XR, XT, XU, XV, XW, XX, XY, XZ, X0, X1, X2, X3, Addr.add, ↓reduceIte, Nat.reduceLT, Nat.reduceEqDiff, Nat.zero_add, Nat.reduceAdd, Option.map_some, X4, List.getElem_toArray, List.getElem_cons_zero, List.getElem_cons_succ, x_nil, nilL_some, Option.isSome_some, x_f61_1, x_f61_2, x_f58_2, x_cv3_56, x_cv56_21, x_cv56_59, x_cv3_21, convL_int, bin_shl64, bin_shr64, bin_andB, h0']
           refine hK _ ?_
           clear hK K))
      refine t_conv (ts := 59) (ad := ⟨Wg, 1, none⟩) (el := ty) (nn := 2) (by decide) rfl rfl rfl (by simp only [Xa, Xb, Xc, Xd, Xe, Xf, Xg, Xh, Xi, Xj, Xk, Xl, Xm, Xn, Xo, Xp, Xq, Xr, Xs, Xt, Xu, Xv, Xw, Xx, Xy, Xz, XA, XB, XD, XE, XF, XG, XH, XI, ev, XJ, upd, args1, args2, args3, args4, XK, XL, XM, extL, XN, XO, XP, XQ, XR, XT, XU, XV, XW, XX, XY, XZ, X0, X1, X2, X3, Addr.add, ↓reduceIte, Nat.reduceLT, Nat.reduceEqDiff, Nat.zero_add, Nat.reduceAdd, Option.map_some, X4, List.getElem_toArray, List.getElem_cons_zero, List.getElem_cons_succ, x_nil, nilL_some, Option.isSome_some, x_f61_1, x_f61_2, x_f58_2, x_cv3_56, x_cv56_21, x_cv56_59, x_cv3_21, convL_int, bin_shl64, bin_shr64, bin_andB, a1]) rfl hsy2 hsh3 (Nat.lt_succ_self 1) ?_
      refine t_said .write (.inr rfl) (by decide) Try.func53 nm53 rfl nx53 ex53 (ad := ⟨Wg, 1, none⟩) (by simp only [List.map_toArray, List.map_cons, List.map_nil, Xa, Xb, Xc, Xd, Xe, Xf, Xg, Xh, Xi, Xj, Xk, Xl, Xm, Xn, Xo, Xp, Xq, Xr, Xs, Xt, Xu, Xv, Xw, Xx, Xy, Xz, XA, XB, XD, XE, XF, XG, XH, XI, ev, XJ, upd, args1, args2, args3, args4, XK, XL, XM, extL, XN, XO, XP, XQ, XR, XT, XU, XV, XW, XX, XY, XZ, X0, X1, X2, X3, Addr.add, ↓reduceIte, Nat.reduceLT, Nat.reduceEqDiff, Nat.zero_add, Nat.reduceAdd, Option.map_some, X4, List.getElem_toArray, List.getElem_cons_zero, List.getElem_cons_succ, x_nil, nilL_some, Option.isSome_some, x_f61_1, x_f61_2, x_f58_2, x_cv3_56, x_cv56_21, x_cv56_59, x_cv3_21, convL_int, bin_shl64, bin_shr64, bin_andB]; rfl) rfl (fun O3 w3 r3 => ⟨r3.sy _ (shape_lt hsh3) hsy2, Nat.lt_of_lt_of_le (shape_lt hsh3) r3.size⟩) ?_
      refine c_done hW ?_
      refine c_seq hW ?_
      refine c_region hW ?_
      repeat (first
        | (refine c_skG hW rfl (by decide) rfl ?_)
        | (refine c_skU hW rfl (by decide) rfl ?_)
        | (first | refine c_rdG hW (by decide) rfl (by decide) rfl (fun K hK => ?_) | refine c_rd hW (by decide) (fun K hK => ?_)
           simp only [Xa, Xb, Xc, Xd, Xe, Xf, Xg, Xh, Xi, Xj, Xk, Xl, Xm, Xn, Xo, Xp, Xq, Xr, Xs, Xt, Xu, Xv, Xw, Xx, Xy, Xz, XA, XB, XD, XE, XF, XG, XH, XI, ev, XJ, upd, args1, args2, args3, args4, XK, XL, XM, extL, XN, XO, XP, XQ, XR, XT, XU, XV, XW, XX, XY, XZ, X0, X1, X2, X3, Addr.add, ↓reduceIte, Nat.reduceLT, Nat.reduceEqDiff, Nat.zero_add, Nat.reduceAdd, Option.map_some, X4, List.getElem_toArray, List.getElem_cons_zero, List.getElem_cons_succ, x_nil, nilL_some, Option.isSome_some, x_f61_1, x_f61_2, x_f58_2, x_cv3_56, x_cv56_21, x_cv56_59, x_cv3_21, convL_int, bin_shl64, bin_shr64, bin_andB]
           refine hK _ ?_
           clear hK K))
      refine c_done hW ?_
      refine c_seq hW ?_
      refine c_seq hW ?_
      refine c_region hW ?_
      repeat (first
        | (refine c_skG hW rfl (by decide) rfl ?_)
        | (refine c_skU hW rfl (by decide) rfl ?_)
        | (first | refine c_rdG hW (by decide) rfl (by decide) rfl (fun K hK => ?_) | refine c_rd hW (by decide) (fun K hK => ?_)
           simp only [Xa, Xb, Xc, Xd, Xe, Xf, Xg, Xh, Xi, Xj, Xk, Xl, Xm, Xn, Xo, Xp, Xq, Xr, Xs, Xt, Xu, Xv, Xw, Xx, Xy, Xz, XA, XB, XD, XE, XF, XG, XH, XI, ev, XJ, upd, args1, args2, args3, args4, XK, XL, XM, extL, XN, XO, XP, XQ, XR, XT, XU, XV, XW, XX, XY, XZ, X0, X1, X2, X3, Addr.add, ↓reduceIte, Nat.reduceLT, Nat.reduceEqDiff, Nat.zero_add, Nat.reduceAdd, Option.map_some, X4, List.getElem_toArray, List.getElem_cons_zero, List.getElem_cons_succ, x_nil, nilL_some, Option.isSome_some, x_f61_1, x_f61_2, x_f58_2, x_cv3_56, x_cv56_21, x_cv56_59, x_cv3_21, convL_int, bin_shl64, bin_shr64, bin_andB, e1, bne00]
           refine hK _ ?_
           clear hK K))
      refine c_done hW ?_
      refine c_false hW rfl ?_
      refine c_skip hW ?_
      refine c_seq hW ?_
      refine c_region hW ?_
      repeat (first
        | (refine c_skG hW rfl (by decide) rfl ?_)
        | (refine c_skU hW rfl (by decide) rfl ?_)
        | (first | refine c_rdG hW (by decide) rfl (by decide) rfl (fun K hK => ?_) | refine c_rd hW (by decide) (fun K hK => ?_)
           simp only [Xa, Xb, Xc, Xd, Xe, Xf, Xg, Xh, Xi, Xj, Xk, Xl, Xm, Xn, Xo, Xp, Xq, Xr, Xs, Xt, Xu, Xv, Xw, Xx, Xy, Xz, XA, XB, XD, XE, XF, XG, XH, XI, ev, XJ, upd, args1, args2, args3, args4, XK, XL, XM, extL, XN, XO, XP, XQ, XR, XT, XU, XV, XW, XX, XY, XZ, X0, X1, X2, X3, Addr.add, ↓reduceIte, Nat.reduceLT, Nat.reduceEqDiff, Nat.zero_add, Nat.reduceAdd, Option.map_some, X4, List.getElem_toArray, List.getElem_cons_zero, List.getElem_cons_succ, x_nil, nilL_some, Option.isSome_some, x_f61_1, x_f61_2, x_f58_2, x_cv3_56, x_cv56_21, x_cv56_59, x_cv3_21, convL_int, bin_shl64, bin_shr64, bin_andB, h0']
           refine hK _ ?_
           clear hK K))
      clear hW
      refine t_here fun rest ho hgo1 => Tree.stop fun O4 w4 r4 => ⟨rfl, rfl, fun ⟨st, hw4⟩ => ?_, fun hw4 => ?_⟩
      · exact st_semwait ho Try.func54 nm54 rfl nx54 ex54 (ad := smA Wg) (by simp only [Xa, Xb, Xc, Xd, Xe, Xf, Xg, Xh, Xi, Xj, Xk, Xl, Xm, Xn, Xo, Xp, Xq, Xr, Xs, Xt, Xu, Xv, Xw, Xx, Xy, Xz, XA, XB, XD, XE, XF, XG, XH, XI, ev, XJ, upd, args1, args2, args3, args4, XK, XL, XM, extL, XN, XO, XP, XQ, XR, XT, XU, XV, XW, XX, XY, XZ, X0, X1, X2, X3, Addr.add, ↓reduceIte, Nat.reduceLT, Nat.reduceEqDiff, Nat.zero_add, Nat.reduceAdd, Option.map_some, X4, List.getElem_toArray, List.getElem_cons_zero, List.getElem_cons_succ, x_nil, nilL_some, Option.isSome_some, x_f61_1, x_f61_2, x_f58_2, x_cv3_56, x_cv56_21, x_cv56_59, x_cv3_21, convL_int, bin_shl64, bin_shr64, bin_andB, a1]; rfl) hw4.cellSm
      · refine ⟨_, st_semacquire ho (by decide) Try.func54 nm54 rfl nx54 ex54 (ad := smA Wg) (by simp only [Xa, Xb, Xc, Xd, Xe, Xf, Xg, Xh, Xi, Xj, Xk, Xl, Xm, Xn, Xo, Xp, Xq, Xr, Xs, Xt, Xu, Xv, Xw, Xx, Xy, Xz, XA, XB, XD, XE, XF, XG, XH, XI, ev, XJ, upd, args1, args2, args3, args4, XK, XL, XM, extL, XN, XO, XP, XQ, XR, XT, XU, XV, XW, XX, XY, XZ, X0, X1, X2, X3, Addr.add, ↓reduceIte, Nat.reduceLT, Nat.reduceEqDiff, Nat.zero_add, Nat.reduceAdd, Option.map_some, X4, List.getElem_toArray, List.getElem_cons_zero, List.getElem_cons_succ, x_nil, nilL_some, Option.isSome_some, x_f61_1, x_f61_2, x_f58_2, x_cv3_56, x_cv56_21, x_cv56_59, x_cv3_21, convL_int, bin_shl64, bin_shr64, bin_andB, a1]; rfl) hw4.cellSm (hw4.thaw 1) (by decide), ?_⟩
        have hlt3 := shape_lt hsh3
        have hsy4 : O4.tag Wg = .sync := r4.sy _ hlt3 hsy2
        have hsh4 : w4.shape? Wg = some (ty, 2) := (r4.shp _ hlt3 hsy2).trans hsh3
        have hd4 : O4.deaf = 1 := r4.deaf.trans hd2
        have hc4 : Cont Fin c cs (O4.hear 0) w4 := hc3.rely (r4.hear 0)
        have hsh5 : (w4.setCell (smA Wg) (.int .u32 0)).shape? Wg = some (ty, 2) := by rw [shape_setCell]; exact hsh4
        have hc5 : Cont Fin c cs (O4.hear 0) (w4.setCell (smA Wg) (.int .u32 0)) := hc4.rely ((Rel.refl x0 (O4.hear 0) w4).setSync _ hsy4)
        generalize (w4.setCell (smA Wg) (.int .u32 0)) = w5 at hsh5 hc5
        refine hgo1 (fun g => Tree P x0 (AtW4 P ty Wg Fin) O4 g w5) _ _ ?_
        clear hgo1 ho rest hw4
        have hW := ctl_tree x0 (AtW4 P ty Wg Fin) O4 w5
        refine c_done hW ?_
        refine c_seq hW ?_
        refine c_region hW ?_
        repeat (first
          | (refine c_skG hW rfl (by decide) rfl ?_)
          | (refine c_skU hW rfl (by decide) rfl ?_)
          | (first | refine c_rdG hW (by decide) rfl (by decide) rfl (fun K hK => ?_) | refine c_rd hW (by decide) (fun K hK => ?_)
             simp only [Xa, Xb, Xc, Xd, Xe, Xf, Xg, Xh, Xi, Xj, Xk, Xl, Xm, Xn, Xo, Xp, Xq, Xr, Xs, Xt, Xu, Xv, Xw, Xx, Xy, Xz, XA, XB, XD, XE, XF, XG, XH, XI, ev, XJ, upd, args1, args2, args3, args4, XK, XL, XM, extL, XN, XO, XP, XQ, XR, XT, XU, XV, XW, XX, XY, XZ, X0, X1, X2, X3, Addr.add, ↓reduceIte, Nat.reduceLT, Nat.reduceEqDiff, Nat.zero_add, Nat.reduceAdd, Option.map_some, X4, List.getElem_toArray, List.getElem_cons_zero, List.getElem_cons_succ, x_nil, nilL_some, Option.isSome_some, x_f61_1, x_f61_2, x_f58_2, x_cv3_56, x_cv56_21, x_cv56_59, x_cv3_21, convL_int, bin_shl64, bin_shr64, bin_andB, h0']
             refine hK _ ?_
             clear hK K))
        refine c_call hW #[.pointer (some ⟨Wg, 0, none⟩)] (by decide) Try.func46 nm46 rfl (by simp only [List.map_toArray, List.map_cons, List.map_nil, Xa, Xb, Xc, Xd, Xe, Xf, Xg, Xh, Xi, Xj, Xk, Xl, Xm, Xn, Xo, Xp, Xq, Xr, Xs, Xt, Xu, Xv, Xw, Xx, Xy, Xz, XA, XB, XD, XE, XF, XG, XH, XI, ev, XJ, upd, args1, args2, args3, args4, XK, XL, XM, extL, XN, XO, XP, XQ, XR, XT, XU, XV, XW, XX, XY, XZ, X0, X1, X2, X3, Addr.add, ↓reduceIte, Nat.reduceLT, Nat.reduceEqDiff, Nat.zero_add, Nat.reduceAdd, Option.map_some, X4, List.getElem_toArray, List.getElem_cons_zero, List.getElem_cons_succ, x_nil, nilL_some, Option.isSome_some, x_f61_1, x_f61_2, x_f58_2, x_cv3_56, x_cv56_21, x_cv56_59, x_cv3_21, convL_int, bin_shl64, bin_shr64, bin_andB, a0]) ?_
        intro c2 hgo
        rw [enter1 _ Try.func46 rfl Try.ntmps46 (by decide)]
        refine c_seq hW ?_
        refine c_region hW ?_
        repeat (first
          | (refine c_skG hW rfl (by decide) rfl ?_)
          | (refine c_skU hW rfl (by decide) rfl ?_)
          | (first | refine c_rdG hW (by decide) rfl (by decide) rfl (fun K hK => ?_) | refine c_rd hW (by decide) (fun K hK => ?_)
             simp only [Xa, Xb, Xc, Xd, Xe, Xf, Xg, Xh, Xi, Xj, Xk, Xl, Xm, Xn, Xo, Xp, Xq, Xr, Xs, Xt, Xu, Xv, Xw, Xx, Xy, Xz, XA, XB, XD, XE, XF, XG, XH, XI, ev, XJ, upd, args1, args2, args3, args4, XK, XL, XM, extL, XN, XO, XP, XQ, XR, XT, XU, XV, XW, XX, XY, XZ, X0, X1, X2, X3, Addr.add, ↓reduceIte, Nat.reduceLT, Nat.reduceEqDiff, Nat.zero_add, Nat.reduceAdd, Option.map_some, X4, List.getElem_toArray, List.getElem_cons_zero, List.getElem_cons_succ, x_nil, nilL_some, Option.isSome_some, x_f61_1, x_f61_2, x_f58_2, x_cv3_56, x_cv56_21, x_cv56_59, x_cv3_21, convL_int, bin_shl64, bin_shr64, bin_andB]
             refine hK _ ?_
             clear hK K))
        refine c_done hW ?_
        refine c_seq hW ?_
        refine c_region hW ?_
        repeat (first
          | (refine c_skG hW rfl (by decide) rfl ?_)
          | (refine c_skU hW rfl (by decide) rfl ?_)
          | (first | refine c_rdG hW (by decide) rfl (by decide) rfl (fun K hK => ?_) | refine c_rd hW (by decide) (fun K hK => ?_)
             simp only [Xa, Xb, Xc, Xd, Xe, Xf, Xg, Xh, Xi, Xj, Xk, Xl, Xm, Xn, Xo, Xp, Xq, Xr, Xs, Xt, Xu, Xv, Xw, Xx, Xy, Xz, XA, XB, XD, XE, XF, XG, XH, XI, ev, XJ, upd, args1, args2, args3, args4, XK, XL, XM, extL, XN, XO, XP, XQ, XR, XT, XU, XV, XW, XX, XY, XZ, X0, X1, X2, X3, Addr.add, ↓reduceIte, Nat.reduceLT, Nat.reduceEqDiff, Nat.zero_add, Nat.reduceAdd, Option.map_some, X4, List.getElem_toArray, List.getElem_cons_zero, List.getElem_cons_succ, x_nil, nilL_some, Option.isSome_some, x_f61_1, x_f61_2, x_f58_2, x_cv3_56, x_cv56_21, x_cv56_59, x_cv3_21, convL_int, bin_shl64, bin_shr64, bin_andB]
             refine hK _ ?_
             clear hK K))
        clear hW
        refine t_here fun rest ho hgo1 => Tree.stop fun O6 w6 r6 => ⟨rfl, fun hw => ⟨_, st_load ho (by decide) Try.func58 nm58 rfl nx58 ex58 (ad := stA Wg) (by simp only [Xa, Xb, Xc, Xd, Xe, Xf, Xg, Xh, Xi, Xj, Xk, Xl, Xm, Xn, Xo, Xp, Xq, Xr, Xs, Xt, Xu, Xv, Xw, Xx, Xy, Xz, XA, XB, XD, XE, XF, XG, XH, XI, ev, XJ, upd, args1, args2, args3, args4, XK, XL, XM, extL, XN, XO, XP, XQ, XR, XT, XU, XV, XW, XX, XY, XZ, X0, X1, X2, X3, Addr.add, ↓reduceIte, Nat.reduceLT, Nat.reduceEqDiff, Nat.zero_add, Nat.reduceAdd, Option.map_some, X4, List.getElem_toArray, List.getElem_cons_zero, List.getElem_cons_succ, x_nil, nilL_some, Option.isSome_some, x_f61_1, x_f61_2, x_f58_2, x_cv3_56, x_cv56_21, x_cv56_59, x_cv3_21, convL_int, bin_shl64, bin_shr64, bin_andB, a0]; rfl) hw.cellSt, ?_⟩⟩
        have hlt5 := shape_lt hsh5
        have hsy6 : O6.tag Wg = .sync := r6.sy _ hlt5 hsy4
        have hsh6 : w6.shape? Wg = some (ty, 2) := (r6.shp _ hlt5 hsy4).trans hsh5
        have hd6 : O6.deaf = 1 := r6.deaf.trans hd4
        have hc6 : Cont Fin c cs (O6.hear 0) w6 := hc5.rely (r6.hear 0)
        refine hgo1 (fun g => Tree P x0 (AtAcq P Wg Fin) O6 g w6) _ _ ?_
        have hW := ctl_tree x0 (AtAcq P Wg Fin) O6 w6
        repeat (first
          | (refine c_skG hW rfl (by decide) rfl ?_)
          | (refine c_skU hW rfl (by decide) rfl ?_)
          | (first | refine c_rdG hW (by decide) rfl (by decide) rfl (fun K hK => ?_) | refine c_rd hW (by decide) (fun K hK => ?_)
             simp only [Xa, Xb, Xc, Xd, Xe, Xf, Xg, Xh, Xi, Xj, Xk, Xl, Xm, Xn, Xo, Xp, Xq, Xr, Xs, Xt, Xu, Xv, Xw, Xx, Xy, Xz, XA, XB, XD, XE, XF, XG, XH, XI, ev, XJ, upd, args1, args2, args3, args4, XK, XL, XM, extL, XN, XO, XP, XQ, XR, XT, XU, XV, XW, XX, XY, XZ, X0, X1, X2, X3, Addr.add, ↓reduceIte, Nat.reduceLT, Nat.reduceEqDiff, Nat.zero_add, Nat.reduceAdd, Option.map_some, X4, List.getElem_toArray, List.getElem_cons_zero, List.getElem_cons_succ, x_nil, nilL_some, Option.isSome_some, x_f61_1, x_f61_2, x_f58_2, x_cv3_56, x_cv56_21, x_cv56_59, x_cv3_21, convL_int, bin_shl64, bin_shr64, bin_andB]
             refine hK _ ?_
             clear hK K))
        refine c_done hW ?_
        refine c_ret hW ?_
        refine c_leave1 hW rfl Try.func46 Try.results46 ?_
        refine hgo (fun g => Tree P x0 (AtAcq P Wg Fin) O6 g w6) _ ?_
        clear hgo hgo1 ho rest hw
        repeat (first
          | (refine c_skG hW rfl (by decide) rfl ?_)
          | (refine c_skU hW rfl (by decide) rfl ?_)
          | (first | refine c_rdG hW (by decide) rfl (by decide) rfl (fun K hK => ?_) | refine c_rd hW (by decide) (fun K hK => ?_)
             simp only [Xa, Xb, Xc, Xd, Xe, Xf, Xg, Xh, Xi, Xj, Xk, Xl, Xm, Xn, Xo, Xp, Xq, Xr, Xs, Xt, Xu, Xv, Xw, Xx, Xy, Xz, XA, XB, XD, XE, XF, XG, XH, XI, ev, XJ, upd, args1, args2, args3, args4, XK, XL, XM, extL, XN, XO, XP, XQ, XR, XT, XU, XV, XW, XX, XY, XZ, X0, X1, X2, X3, Addr.add, ↓reduceIte, Nat.reduceLT, Nat.reduceEqDiff, Nat.zero_add, Nat.reduceAdd, Option.map_some, X4, List.getElem_toArray, List.getElem_cons_zero, List.getElem_cons_succ, x_nil, nilL_some, Option.isSome_some, x_f61_1, x_f61_2, x_f58_2, x_cv3_56, x_cv56_21, x_cv56_59, x_cv3_21, convL_int, bin_shl64, bin_shr64, bin_andB, bne00]
             refine hK _ ?_
             clear hK K))
        refine c_done hW ?_
        refine c_seq hW ?_
        refine c_true hW rfl ?_
        refine c_seq hW ?_
        refine c_region hW ?_
        clear hW
        refine t_mark0 .enable (.inr rfl) (by decide) Try.func39 nm39 rfl nx39 ex39 ?_
        rw [deafE O6 hd6]
        refine t_done ?_
        refine t_region ?_
        iterate 1 (first
          | (refine t_skG rfl (by decide) rfl ?_)
          | (refine t_skU rfl (by decide) rfl ?_)
          | (first | refine t_rdG (by decide) rfl (by decide) rfl (fun K hK => ?_) | refine t_rd (by decide) (fun K hK => ?_)
             simp only [Xa, Xb, Xc, Xd, Xe, Xf, Xg, Xh, Xi, Xj, Xk, Xl, Xm, Xn, Xo, Xp, Xq, Xr, Xs, Xt, Xu, Xv, Xw, Xx, Xy, Xz, XA, XB, XD, XE, XF, XG, XH, XI, ev, XJ, upd, args1, args2, args3, args4, XK, XL, XM, extL, XN, XO, XP, XQ, XR, XT, XU, XV, XW, XX, XY, XZ, X0, X1, X2, X3, Addr.add, ↓reduceIte, Nat.reduceLT, Nat.reduceEqDiff, Nat.zero_add, Nat.reduceAdd, Option.map_some, X4, List.getElem_toArray, List.getElem_cons_zero, List.getElem_cons_succ, h0']
             refine hK _ ?_
             clear hK K))
        refine wait_acq ty Wg Fin c cs (O6.hear 0) w6 rfl hsy6 hsh6 hc6 rfl (by decide) ?_
        intro W hW hfin
        refine c_done hW ?_
        refine c_seq hW ?_
        refine c_seq hW ?_
        refine c_region hW ?_
        repeat (first
          | (refine c_skG hW rfl (by decide) rfl ?_)
          | (refine c_skU hW rfl (by decide) rfl ?_)
          | (first | refine c_rdG hW (by decide) rfl (by decide) rfl (fun K hK => ?_) | refine c_rd hW (by decide) (fun K hK => ?_)
             simp only [Xa, Xb, Xc, Xd, Xe, Xf, Xg, Xh, Xi, Xj, Xk, Xl, Xm, Xn, Xo, Xp, Xq, Xr, Xs, Xt, Xu, Xv, Xw, Xx, Xy, Xz, XA, XB, XD, XE, XF, XG, XH, XI, ev, XJ, upd, args1, args2, args3, args4, XK, XL, XM, extL, XN, XO, XP, XQ, XR, XT, XU, XV, XW, XX, XY, XZ, X0, X1, X2, X3, Addr.add, ↓reduceIte, Nat.reduceLT, Nat.reduceEqDiff, Nat.zero_add, Nat.reduceAdd, Option.map_some, X4, List.getElem_toArray, List.getElem_cons_zero, List.getElem_cons_succ, x_nil, nilL_some, Option.isSome_some, x_f61_1, x_f61_2, x_f58_2, x_cv3_56, x_cv56_21, x_cv56_59, x_cv3_21, convL_int, bin_shl64, bin_shr64, bin_andB]
             refine hK _ ?_
             clear hK K))
        refine c_done hW ?_
        refine c_false hW rfl ?_
        refine c_skip hW ?_
        refine c_ret hW ?_
        exact c_leave0 hW rfl Try.func30 Try.results30 hfin
    · have hne : ¬ ((v' : Int) * KK = (v : Int) * KK) := by unfold KK; omega
      refine ⟨_, st_casMiss ho (by decide) Try.func60 nm60 rfl nx60 ex60 (ad := stA Wg) (v := (v' : Int) * KK) (old := (v : Int) * KK) (nw := (v : Int) * KK + 1) (by simp only [Xa, Xb, Xc, Xd, Xe, Xf, Xg, Xh, Xi, Xj, Xk, Xl, Xm, Xn, Xo, Xp, Xq, Xr, Xs, Xt, Xu, Xv, Xw, Xx, Xy, Xz, XA, XB, XD, XE, XF, XG, XH, XI, ev, XJ, upd, args1, args2, args3, args4, XK, XL, XM, extL, XN, XO, XP, XQ, XR, XT, XU, XV, XW, XX, XY, XZ, X0, X1, X2, X3, Addr.add, ↓reduceIte, Nat.reduceLT, Nat.reduceEqDiff, Nat.zero_add, Nat.reduceAdd, Option.map_some, X4, List.getElem_toArray, List.getElem_cons_zero, List.getElem_cons_succ, x_nil, nilL_some, Option.isSome_some, x_f61_1, x_f61_2, x_f58_2, x_cv3_56, x_cv56_21, x_cv56_59, x_cv3_21, convL_int, bin_shl64, bin_shr64, bin_andB, a0]; rfl) (by simp only [Xa, Xb, Xc, Xd, Xe, Xf, Xg, Xh, Xi, Xj, Xk, Xl, Xm, Xn, Xo, Xp, Xq, Xr, Xs, Xt, Xu, Xv, Xw, Xx, Xy, Xz, XA, XB, XD, XE, XF, XG, XH, XI, ev, XJ, upd, args1, args2, args3, args4, XK, XL, XM, extL, XN, XO, XP, XQ, XR, XT, XU, XV, XW, XX, XY, XZ, X0, X1, X2, X3, Addr.add, ↓reduceIte, Nat.reduceLT, Nat.reduceEqDiff, Nat.zero_add, Nat.reduceAdd, Option.map_some, X4, List.getElem_toArray, List.getElem_cons_zero, List.getElem_cons_succ, x_nil, nilL_some, Option.isSome_some, x_f61_1, x_f61_2, x_f58_2, x_cv3_56, x_cv56_21, x_cv56_59, x_cv3_21, convL_int, bin_shl64, bin_shr64, bin_andB]) (by simp only [Xa, Xb, Xc, Xd, Xe, Xf, Xg, Xh, Xi, Xj, Xk, Xl, Xm, Xn, Xo, Xp, Xq, Xr, Xs, Xt, Xu, Xv, Xw, Xx, Xy, Xz, XA, XB, XD, XE, XF, XG, XH, XI, ev, XJ, upd, args1, args2, args3, args4, XK, XL, XM, extL, XN, XO, XP, XQ, XR, XT, XU, XV, XW, XX, XY, XZ, X0, X1, X2, X3, Addr.add, ↓reduceIte, Nat.reduceLT, Nat.reduceEqDiff, Nat.zero_add, Nat.reduceAdd, Option.map_some, X4, List.getElem_toArray, List.getElem_cons_zero, List.getElem_cons_succ, x_nil, nilL_some, Option.isSome_some, x_f61_1, x_f61_2, x_f58_2, x_cv3_56, x_cv56_21, x_cv56_59, x_cv3_21, convL_int, bin_shl64, bin_shr64, bin_andB]) hw'.cellSt (hw'.thaw 0) hne, ?_⟩
      refine hgo1 (fun g => Tree P x0 (AnchW ty Wg Fin c cs) O2 g w2) _ _ ?_
      have hW := ctl_tree x0 (AnchW ty Wg Fin c cs) O2 w2
      repeat (first
        | (refine c_skG hW rfl (by decide) rfl ?_)
        | (refine c_skU hW rfl (by decide) rfl ?_)
        | (first | refine c_rdG hW (by decide) rfl (by decide) rfl (fun K hK => ?_) | refine c_rd hW (by decide) (fun K hK => ?_)
           simp only [Xa, Xb, Xc, Xd, Xe, Xf, Xg, Xh, Xi, Xj, Xk, Xl, Xm, Xn, Xo, Xp, Xq, Xr, Xs, Xt, Xu, Xv, Xw, Xx, Xy, Xz, XA, XB, XD, XE, XF, XG, XH, XI, ev, XJ, upd, args1, args2, args3, args4, XK, XL, XM, extL, XN, XO, XP, XQ, XR, XT, XU, XV, XW, XX, XY, XZ, X0, X1, X2, X3, Addr.add, ↓reduceIte, Nat.reduceLT, Nat.reduceEqDiff, Nat.zero_add, Nat.reduceAdd, Option.map_some, X4, List.getElem_toArray, List.getElem_cons_zero, List.getElem_cons_succ, x_nil, nilL_some, Option.isSome_some, x_f61_1, x_f61_2, x_f58_2, x_cv3_56, x_cv56_21, x_cv56_59, x_cv3_21, convL_int, bin_shl64, bin_shr64, bin_andB]
           refine hK _ ?_
           clear hK K))
      refine c_done hW ?_
      refine c_ret hW ?_
      refine c_leave1 hW rfl Try.func52 Try.results52 ?_
      refine hgo (fun g => Tree P x0 (AnchW ty Wg Fin c cs) O2 g w2) _ ?_
      clear hgo hgo1 ho rest c2 hw'
      repeat (first
        | (refine c_skG hW rfl (by decide) rfl ?_)
        | (refine c_skU hW rfl (by decide) rfl ?_)
        | (first | refine c_rdG hW (by decide) rfl (by decide) rfl (fun K hK => ?_) | refine c_rd hW (by decide) (fun K hK => ?_)
           simp only [Xa, Xb, Xc, Xd, Xe, Xf, Xg, Xh, Xi, Xj, Xk, Xl, Xm, Xn, Xo, Xp, Xq, Xr, Xs, Xt, Xu, Xv, Xw, Xx, Xy, Xz, XA, XB, XD, XE, XF, XG, XH, XI, ev, XJ, upd, args1, args2, args3, args4, XK, XL, XM, extL, XN, XO, XP, XQ, XR, XT, XU, XV, XW, XX, XY, XZ, X0, X1, X2, X3, Addr.add, ↓reduceIte, Nat.reduceLT, Nat.reduceEqDiff, Nat.zero_add, Nat.reduceAdd, Option.map_some, X4, List.getElem_toArray, List.getElem_cons_zero, List.getElem_cons_succ, x_nil, nilL_some, Option.isSome_some, x_f61_1, x_f61_2, x_f58_2, x_cv3_56, x_cv56_21, x_cv56_59, x_cv3_21, convL_int, bin_shl64, bin_shr64, bin_andB]
           refine hK _ ?_
           clear hK K))
      refine c_done hW ?_
      refine c_false hW rfl ?_
      refine c_skip hW ?_
      refine c_inBlock hW ?_
      refine c_inLoop hW ?_
      refine Tree.stop fun O3 w3 r3 => AnchW.rely ⟨hd2, hsy2, hsh2, hc2, by refine ⟨_, ?_, rfl⟩; exact h0⟩ r3

set_option maxHeartbeats 4000000 in
/-- WAIT's beginning. -/
theorem wait_M (ty : TypeId) (Wg : Nat) (Fin : Gh → Goroutine → World → Prop) (c : Frame) (cs : List Frame) (O : Gh) (w : World) (hd : O.deaf = 0) (hsy : O.tag Wg = .sync) (hsh : w.shape? Wg = some (ty, 2)) (hc : Cont Fin c cs O w) :
    Tree P x0 (AnchW ty Wg Fin c cs) O (G (Frame.enter P 30 #[ptr Wg 0] .normal) (c :: cs)) w := by
  rw [enter1 _ Try.func30 rfl Try.ntmps30 (by decide)]
  refine t_seq ?_
  refine t_true rfl ?_
  refine t_region ?_
  refine t_mark0 .disable (.inl rfl) (by decide) Try.func38 nm38 rfl nx38 ex38 ?_
  rw [hd]
  show InReg P x0 _ (O.hear 1) _ _ _ _ _ _ _ _ _ _
  refine t_done ?_
  refine t_block ?_
  refine t_loop ?_
  refine Tree.stop fun O3 w3 r3 => AnchW.rely (O := O.hear 1) ⟨rfl, hsy, hsh, ?_, by refine ⟨_, ?_, rfl⟩; rfl⟩ r3
  rw [show (O.hear 1).hear 0 = O from hear_self hd]; exact hc
end Go.Proofs.Ytdajdembeacefaa.M

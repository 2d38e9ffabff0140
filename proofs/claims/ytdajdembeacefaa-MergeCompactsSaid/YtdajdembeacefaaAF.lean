/-
  sync.WaitGroup's Add(1), as main calls it.
-/
import Derived.Test.YtdajdembeacefaaAE
set_option linter.unusedSimpArgs false
set_option linter.unusedVariables false
namespace Go.Proofs.Ytdajdembeacefaa.M
open Go.Conc
open Go.ConcR (KK WgAt stA smA rd wr mk)

theorem Rel.setSync {x : Th} {O O1 : Gh} {w w1 : World} (r : Rel x O w O1 w1) {a : Addr} (v : Value) (hs : O1.tag a.block = .sync) : Rel x O w O1 (w1.setCell a v) := by
  refine r.trans ?_
  have hsz : (w1.setCell a v).heap.size = w1.heap.size := by simp [World.setCell]
  have keep : ∀ b, O1.tag b ≠ .sync → (w1.setCell a v).heap[b]? = w1.heap[b]? := fun b hb => cell_setCell v b fun e => hb (e ▸ hs)
  refine ⟨by rw [hsz]; exact Nat.le_refl _, by simp [World.setCell], by simp [World.setCell], by simp [World.setCell], rfl, fun _ _ _ => rfl, fun _ _ _ h => h, fun b _ h => keep b ?_, fun b _ _ h => cell?_congr (keep b ?_) 0 none, fun _ b _ h => ⟨h, keep b ?_⟩, fun _ _ h => h, fun b _ _ => shape_setCell w1 a v b⟩
  · rcases h with h | ⟨h, _⟩ | ⟨h, _⟩ <;> rw [h] <;> simp
  · rw [h]; simp
  · rw [h]; simp
theorem hear_self {O : Gh} {d : Nat} (h : O.deaf = d) : O.hear d = O := by subst h; rfl
theorem shape_lt {w : World} {b n : Nat} {e : TypeId} (h : w.shape? b = some (e, n)) : b < w.heap.size := by
  unfold World.shape? at h
  rcases Nat.lt_or_ge b w.heap.size with h' | h'
  · exact h'
  · rw [Array.getElem?_eq_none h'] at h; cases h
theorem e64p1 : IntKind.u64.wrap (IntKind.u64.wrap 1 * 4294967296) = 4294967296 := by decide
theorem st_plus (v : Nat) (hv : v < 2147483647) : IntKind.u64.wrap ((v : Int) * KK + 4294967296) = ((v : Int) + 1) * KK := by
  rw [IntKind.wrap_u64]; unfold KK; omega
theorem stN0 (v : Nat) : stN (v + 1) 0 = ((v : Int) + 1) * KK := by unfold stN; simp

set_option maxHeartbeats 4000000 in
theorem add1_M (ty : TypeId) (Wg e : Nat) (Next : Nat → List Snd → Gh → Goroutine → World → Prop) (S : Nat) (sn : List Snd) (O : Gh) (w : World) (c : Frame) (cs : List Frame) (hsy : O.tag Wg = .sync) (hsh : w.shape? Wg = some (ty, 2)) (hd : O.deaf = 0) (hlen : sn.length < 2147483646)
    (hnext : ∀ O' w', Rel x0 O w O' w' → Tree P x0 (AtGo P ty Wg e Next S sn) O' (G (c.finish (.tuple #[])) cs) w') :
    Tree P x0 (AtAdd P ty Wg e Next S sn) O (G (Frame.enter P 24 #[ptr Wg 0, .int .i64 1] .normal) (c :: cs)) w := by
  have a0 : Addr.add ⟨Wg, 0, none⟩ 0 = ⟨Wg, 0, none⟩ := add_none _ _ _
  have a1 : Addr.add ⟨Wg, 0, none⟩ 1 = ⟨Wg, 1, none⟩ := add_none _ _ _
  unfold ptr
  rw [enter2 _ _ Try.func24 rfl Try.ntmps24 (by decide)]
  refine t_seq ?_
  refine t_true rfl ?_
  refine t_seq ?_
  have h1 : decide ((1 : Int) < 0) = false := by decide
  refine t_seq ?_
  refine t_region ?_
  repeat (first
    | (refine t_skG rfl (by decide) rfl ?_)
    | (refine t_skU rfl (by decide) rfl ?_)
    | (first | refine t_rdG (by decide) rfl (by decide) rfl (fun K hK => ?_) | refine t_rd (by decide) (fun K hK => ?_)
       simp only [Xa, Xb, Xc, Xd, Xe, Xf, Xg, Xh, Xi, Xj, Xk, Xl, Xm, Xn, Xo, Xp, Xq, Xr, Xs, Xt, Xu, Xv, Xw, Xx, Xy, Xz, XA, XB, XD, XE, XF, XG, XH, XI, ev, XJ, upd, args1, args2, args3, args4, XK, XL, XM, extL, XN, XO, XP, XQ, XR, XT, XU, XV, XW, XX, XY, XZ, X0, X1, X2, X3, Addr.add, ↓reduceIte, Nat.reduceLT, Nat.reduceEqDiff, Nat.zero_add, Nat.reduceAdd, Option.map_some, X4, List.getElem_toArray, List.getElem_cons_zero, List.getElem_cons_succ, h1]
       refine hK _ ?_
       clear hK K))
  refine t_done ?_
  refine t_false rfl ?_
  refine t_skip ?_
  refine t_seq ?_
  refine t_region ?_
  refine t_mark0 .disable (.inl rfl) (by decide) Try.func38 nm38 rfl nx38 ex38 ?_
  rw [hd]
  show InReg P x0 _ (O.hear 1) _ _ _ _ _ _ _ _ _ _
  refine t_done ?_
  refine t_region ?_
  refine t_defer (vals := #[]) (by decide) (by simp) ?_
  refine t_done ?_
  refine t_seq ?_
  refine t_region ?_
  repeat (first
    | (refine t_skG rfl (by decide) rfl ?_)
    | (refine t_skU rfl (by decide) rfl ?_)
    | (first | refine t_rdG (by decide) rfl (by decide) rfl (fun K hK => ?_) | refine t_rd (by decide) (fun K hK => ?_)
       simp only [Xa, Xb, Xc, Xd, Xe, Xf, Xg, Xh, Xi, Xj, Xk, Xl, Xm, Xn, Xo, Xp, Xq, Xr, Xs, Xt, Xu, Xv, Xw, Xx, Xy, Xz, XA, XB, XD, XE, XF, XG, XH, XI, ev, XJ, upd, args1, args2, args3, args4, XK, XL, XM, extL, XN, XO, XP, XQ, XR, XT, XU, XV, XW, XX, XY, XZ, X0, X1, X2, X3, Addr.add, ↓reduceIte, Nat.reduceLT, Nat.reduceEqDiff, Nat.zero_add, Nat.reduceAdd, Option.map_some, X4, List.getElem_toArray, List.getElem_cons_zero, List.getElem_cons_succ]
       refine hK _ ?_
       clear hK K))
  refine t_done ?_
  refine t_seq ?_
  refine t_seq ?_
  refine t_region ?_
  refine t_entryPure (.bool false) (by decide) Try.func40 nm40 rfl nx40 ex40 ?_
  refine t_done ?_
  refine t_false rfl ?_
  refine t_skip ?_
  refine t_seq ?_
  have hW := ctl_tree x0 (AtAdd P ty Wg e Next S sn) (O.hear 1) w
  refine c_region hW ?_
  repeat (first
    | (refine c_skG hW rfl (by decide) rfl ?_)
    | (refine c_skU hW rfl (by decide) rfl ?_)
    | (first | refine c_rdG hW (by decide) rfl (by decide) rfl (fun K hK => ?_) | refine c_rd hW (by decide) (fun K hK => ?_)
       simp only [Xa, Xb, Xc, Xd, Xe, Xf, Xg, Xh, Xi, Xj, Xk, Xl, Xm, Xn, Xo, Xp, Xq, Xr, Xs, Xt, Xu, Xv, Xw, Xx, Xy, Xz, XA, XB, XD, XE, XF, XG, XH, XI, ev, XJ, upd, args1, args2, args3, args4, XK, XL, XM, extL, XN, XO, XP, XQ, XR, XT, XU, XV, XW, XX, XY, XZ, X0, X1, X2, X3, Addr.add, ↓reduceIte, Nat.reduceLT, Nat.reduceEqDiff, Nat.zero_add, Nat.reduceAdd, Option.map_some, X4, List.getElem_toArray, List.getElem_cons_zero, List.getElem_cons_succ, x_nil, nilL_some, Option.isSome_some, x_f61_1, x_f61_2, x_f58_2, x_cv3_56, x_cv56_21, x_cv56_59, x_cv3_21, convL_int, bin_shl64, bin_shr64, bin_andB, e64p1]
       refine hK _ ?_
       clear hK K))
  refine c_call hW #[.pointer (some ⟨Wg, 0, none⟩), .int .u64 4294967296] (by decide) Try.func44 nm44 rfl (by simp only [List.map_toArray, List.map_cons, List.map_nil, Xa, Xb, Xc, Xd, Xe, Xf, Xg, Xh, Xi, Xj, Xk, Xl, Xm, Xn, Xo, Xp, Xq, Xr, Xs, Xt, Xu, Xv, Xw, Xx, Xy, Xz, XA, XB, XD, XE, XF, XG, XH, XI, ev, XJ, upd, args1, args2, args3, args4, XK, XL, XM, extL, XN, XO, XP, XQ, XR, XT, XU, XV, XW, XX, XY, XZ, X0, X1, X2, X3, Addr.add, ↓reduceIte, Nat.reduceLT, Nat.reduceEqDiff, Nat.zero_add, Nat.reduceAdd, Option.map_some, X4, List.getElem_toArray, List.getElem_cons_zero, List.getElem_cons_succ, x_nil, nilL_some, Option.isSome_some, x_f61_1, x_f61_2, x_f58_2, x_cv3_56, x_cv56_21, x_cv56_59, x_cv3_21, convL_int, bin_shl64, bin_shr64, bin_andB, a0]) ?_
  intro c2 hgo
  rw [enter2 _ _ Try.func44 rfl Try.ntmps44 (by decide)]
  refine c_seq hW ?_
  refine c_region hW ?_
  repeat (first
    | (refine c_skG hW rfl (by decide) rfl ?_)
    | (refine c_skU hW rfl (by decide) rfl ?_)
    | (first | refine c_rdG hW (by decide) rfl (by decide) rfl (fun K hK => ?_) | refine c_rd hW (by decide) (fun K hK => ?_)
       simp only [Xa, Xb, Xc, Xd, Xe, Xf, Xg, Xh, Xi, Xj, Xk, Xl, Xm, Xn, Xo, Xp, Xq, Xr, Xs, Xt, Xu, Xv, Xw, Xx, Xy, Xz, XA, XB, XD, XE, XF, XG, XH, XI, ev, XJ, upd, args1, args2, args3, args4, XK, XL, XM, extL, XN, XO, XP, XQ, XR, XT, XU, XV, XW, XX, XY, XZ, X0, X1, X2, X3, Addr.add, ↓reduceIte, Nat.reduceLT, Nat.reduceEqDiff, Nat.zero_add, Nat.reduceAdd, Option.map_some, X4, List.getElem_toArray, List.getElem_cons_zero, List.getElem_cons_succ, x_nil, nilL_some, Option.isSome_some, x_f61_1, x_f61_2, x_f58_2, x_cv3_56, x_cv56_21, x_cv56_59, x_cv3_21, convL_int, bin_shl64, bin_shr64, bin_andB]
       refine hK _ ?_
       clear hK K))
  refine c_done hW ?_
  refine c_seq hW ?_
  refine c_region hW ?_
  repeat (first
    | (refine c_skG hW rfl (by decide) rfl ?_)
    | (refine c_skU hW rfl (by decide) rfl ?_)
    | (first | refine c_rdG hW (by decide) rfl (by decide) rfl (fun K hK => ?_) | refine c_rd hW (by decide) (fun K hK => ?_)
       simp only [Xa, Xb, Xc, Xd, Xe, Xf, Xg, Xh, Xi, Xj, Xk, Xl, Xm, Xn, Xo, Xp, Xq, Xr, Xs, Xt, Xu, Xv, Xw, Xx, Xy, Xz, XA, XB, XD, XE, XF, XG, XH, XI, ev, XJ, upd, args1, args2, args3, args4, XK, XL, XM, extL, XN, XO, XP, XQ, XR, XT, XU, XV, XW, XX, XY, XZ, X0, X1, X2, X3, Addr.add, ↓reduceIte, Nat.reduceLT, Nat.reduceEqDiff, Nat.zero_add, Nat.reduceAdd, Option.map_some, X4, List.getElem_toArray, List.getElem_cons_zero, List.getElem_cons_succ, x_nil, nilL_some, Option.isSome_some, x_f61_1, x_f61_2, x_f58_2, x_cv3_56, x_cv56_21, x_cv56_59, x_cv3_21, convL_int, bin_shl64, bin_shr64, bin_andB]
       refine hK _ ?_
       clear hK K))
  clear hW
  refine t_here fun rest ho hgo1 => Tree.stop fun O1 w1 r => ⟨rfl, fun v hv hw => ⟨_, st_add ho (by decide) Try.func57 nm57 rfl nx57 ex57 (ad := stA Wg) (by simp only [Xa, Xb, Xc, Xd, Xe, Xf, Xg, Xh, Xi, Xj, Xk, Xl, Xm, Xn, Xo, Xp, Xq, Xr, Xs, Xt, Xu, Xv, Xw, Xx, Xy, Xz, XA, XB, XD, XE, XF, XG, XH, XI, ev, XJ, upd, args1, args2, args3, args4, XK, XL, XM, extL, XN, XO, XP, XQ, XR, XT, XU, XV, XW, XX, XY, XZ, X0, X1, X2, X3, Addr.add, ↓reduceIte, Nat.reduceLT, Nat.reduceEqDiff, Nat.zero_add, Nat.reduceAdd, Option.map_some, X4, List.getElem_toArray, List.getElem_cons_zero, List.getElem_cons_succ, x_nil, nilL_some, Option.isSome_some, x_f61_1, x_f61_2, x_f58_2, x_cv3_56, x_cv56_21, x_cv56_59, x_cv3_21, convL_int, bin_shl64, bin_shr64, bin_andB, a0]; rfl) (by simp only [Xa, Xb, Xc, Xd, Xe, Xf, Xg, Xh, Xi, Xj, Xk, Xl, Xm, Xn, Xo, Xp, Xq, Xr, Xs, Xt, Xu, Xv, Xw, Xx, Xy, Xz, XA, XB, XD, XE, XF, XG, XH, XI, ev, XJ, upd, args1, args2, args3, args4, XK, XL, XM, extL, XN, XO, XP, XQ, XR, XT, XU, XV, XW, XX, XY, XZ, X0, X1, X2, X3, Addr.add, ↓reduceIte, Nat.reduceLT, Nat.reduceEqDiff, Nat.zero_add, Nat.reduceAdd, Option.map_some, X4, List.getElem_toArray, List.getElem_cons_zero, List.getElem_cons_succ, x_nil, nilL_some, Option.isSome_some, x_f61_1, x_f61_2, x_f58_2, x_cv3_56, x_cv56_21, x_cv56_59, x_cv3_21, convL_int, bin_shl64, bin_shr64, bin_andB]) hw.cellSt (hw.thaw 0) (st_plus v (by omega)), ?_⟩⟩
  have hlt := shape_lt hsh
  have r1 : Rel x0 O w (O1.hear 0) w1 := by
    have := r.hear 0
    rwa [show (O.hear 1).hear 0 = O from hear_self hd] at this
  have hsy1 : O1.tag Wg = .sync := r.sy _ hlt hsy
  have hsh1 : (w1.setCell (stA Wg) (.int .u64 (((v : Int) + 1) * KK))).shape? Wg = some (ty, 2) := by rw [shape_setCell, r.shp _ hlt hsy]; exact hsh
  have r2 := r1.setSync (a := stA Wg) (.int .u64 (((v : Int) + 1) * KK)) hsy1
  have hd1 : O1.deaf = 1 := r.deaf
  generalize (w1.setCell (stA Wg) (.int .u64 (((v : Int) + 1) * KK))) = w2 at hsh1 r2
  refine hgo1 (fun g => Tree P x0 (AtGo P ty Wg e Next S sn) O1 g w2) _ _ ?_
  have hW := ctl_tree x0 (AtGo P ty Wg e Next S sn) O1 w2
  have fin : ∀ f todo, Tree P x0 (AtGo P ty Wg e Next S sn) O1 (G { Fr (base 24) 117 f [dcall 39 #[]] todo with mode := .returning } (c :: cs)) w2 := by
    intro f todo
    refine t_unwind_mark .enable (.inr rfl) Try.func39 nm39 rfl nx39 ex39 ?_
    rw [hd1]
    refine t_leave0 rfl Try.func24 Try.results24 ?_
    exact hnext _ _ r2
  have hv1 : v + 1 < 2147483648 := by omega
  have e1 := st_fl (v + 1) 0 hv1 (by omega)
  have e2 := st_wt (v + 1) 0 hv1 (by omega)
  have e3 := st_fdiv (v + 1) 0 (by omega)
  have e4 := st_i32 (v + 1) hv1
  have e5 := st_u32 0 (by omega)
  rw [stN0] at e1 e2 e3
  have e6 : decide (((v + 1 : Nat) : Int) < 0) = false := decide_eq_false (by omega)
  have e7 : (((0 : Nat) : Int) != 0) = false := by decide
  have e8 : IntKind.i32.wrap 1 = 1 := by decide
  have e9 : decide ((0 : Int) < 1) = true := by decide
  have e10 : decide ((0 : Int) < ((v + 1 : Nat) : Int)) = true := decide_eq_true (by omega)
  repeat (first
    | (refine c_skG hW rfl (by decide) rfl ?_)
    | (refine c_skU hW rfl (by decide) rfl ?_)
    | (first | refine c_rdG hW (by decide) rfl (by decide) rfl (fun K hK => ?_) | refine c_rd hW (by decide) (fun K hK => ?_)
       simp only [Xa, Xb, Xc, Xd, Xe, Xf, Xg, Xh, Xi, Xj, Xk, Xl, Xm, Xn, Xo, Xp, Xq, Xr, Xs, Xt, Xu, Xv, Xw, Xx, Xy, Xz, XA, XB, XD, XE, XF, XG, XH, XI, ev, XJ, upd, args1, args2, args3, args4, XK, XL, XM, extL, XN, XO, XP, XQ, XR, XT, XU, XV, XW, XX, XY, XZ, X0, X1, X2, X3, Addr.add, ↓reduceIte, Nat.reduceLT, Nat.reduceEqDiff, Nat.zero_add, Nat.reduceAdd, Option.map_some, X4, List.getElem_toArray, List.getElem_cons_zero, List.getElem_cons_succ, x_nil, nilL_some, Option.isSome_some, x_f61_1, x_f61_2, x_f58_2, x_cv3_56, x_cv56_21, x_cv56_59, x_cv3_21, convL_int, bin_shl64, bin_shr64, bin_andB]
       refine hK _ ?_
       clear hK K))
  refine c_done hW ?_
  refine c_ret hW ?_
  refine c_leave1 hW rfl Try.func44 Try.results44 ?_
  refine hgo (fun g => Tree P x0 (AtGo P ty Wg e Next S sn) O1 g w2) _ ?_
  repeat (first
    | (refine c_skG hW rfl (by decide) rfl ?_)
    | (refine c_skU hW rfl (by decide) rfl ?_)
    | (first | refine c_rdG hW (by decide) rfl (by decide) rfl (fun K hK => ?_) | refine c_rd hW (by decide) (fun K hK => ?_)
       simp only [Xa, Xb, Xc, Xd, Xe, Xf, Xg, Xh, Xi, Xj, Xk, Xl, Xm, Xn, Xo, Xp, Xq, Xr, Xs, Xt, Xu, Xv, Xw, Xx, Xy, Xz, XA, XB, XD, XE, XF, XG, XH, XI, ev, XJ, upd, args1, args2, args3, args4, XK, XL, XM, extL, XN, XO, XP, XQ, XR, XT, XU, XV, XW, XX, XY, XZ, X0, X1, X2, X3, Addr.add, ↓reduceIte, Nat.reduceLT, Nat.reduceEqDiff, Nat.zero_add, Nat.reduceAdd, Option.map_some, X4, List.getElem_toArray, List.getElem_cons_zero, List.getElem_cons_succ, x_nil, nilL_some, Option.isSome_some, x_f61_1, x_f61_2, x_f58_2, x_cv3_56, x_cv56_21, x_cv56_59, x_cv3_21, convL_int, bin_shl64, bin_shr64, bin_andB]
       refine hK _ ?_
       clear hK K))
  refine c_done hW ?_
  refine c_seq hW ?_
  refine c_seq hW ?_
  refine c_region hW ?_
  repeat (first
    | (refine c_skG hW rfl (by decide) rfl ?_)
    | (refine c_skU hW rfl (by decide) rfl ?_)
    | (first | refine c_rdG hW (by decide) rfl (by decide) rfl (fun K hK => ?_) | refine c_rd hW (by decide) (fun K hK => ?_)
       simp only [Xa, Xb, Xc, Xd, Xe, Xf, Xg, Xh, Xi, Xj, Xk, Xl, Xm, Xn, Xo, Xp, Xq, Xr, Xs, Xt, Xu, Xv, Xw, Xx, Xy, Xz, XA, XB, XD, XE, XF, XG, XH, XI, ev, XJ, upd, args1, args2, args3, args4, XK, XL, XM, extL, XN, XO, XP, XQ, XR, XT, XU, XV, XW, XX, XY, XZ, X0, X1, X2, X3, Addr.add, ↓reduceIte, Nat.reduceLT, Nat.reduceEqDiff, Nat.zero_add, Nat.reduceAdd, Option.map_some, X4, List.getElem_toArray, List.getElem_cons_zero, List.getElem_cons_succ, x_nil, nilL_some, Option.isSome_some, x_f61_1, x_f61_2, x_f58_2, x_cv3_56, x_cv56_21, x_cv56_59, x_cv3_21, convL_int, bin_shl64, bin_shr64, bin_andB, e1, bne00]
       refine hK _ ?_
       clear hK K))
  refine c_done hW ?_
  refine c_false hW rfl ?_
  refine c_skip hW ?_
  refine c_seq hW ?_
  refine c_region hW ?_
  repeat (first
    | (refine c_skG hW rfl (by decide) rfl ?_)
    | (refine c_skU hW rfl (by decide) rfl ?_)
    | (first | refine c_rdG hW (by decide) rfl (by decide) rfl (fun K hK => ?_) | refine c_rd hW (by decide) (fun K hK => ?_)
       simp only [Xa, Xb, Xc, Xd, Xe, Xf, Xg, Xh, Xi, Xj, Xk, Xl, Xm, Xn, Xo, Xp, Xq, Xr, Xs, Xt, Xu, Xv, Xw, Xx, Xy, Xz, XA, XB, XD, XE, XF, XG, XH, XI, ev, XJ, upd, args1, args2, args3, args4, XK, XL, XM, extL, XN, XO, XP, XQ, XR, XT, XU, XV, XW, XX, XY, XZ, X0, X1, X2, X3, Addr.add, ↓reduceIte, Nat.reduceLT, Nat.reduceEqDiff, Nat.zero_add, Nat.reduceAdd, Option.map_some, X4, List.getElem_toArray, List.getElem_cons_zero, List.getElem_cons_succ, x_nil, nilL_some, Option.isSome_some, x_f61_1, x_f61_2, x_f58_2, x_cv3_56, x_cv56_21, x_cv56_59, x_cv3_21, convL_int, bin_shl64, bin_shr64, bin_andB, e3, e4]
       refine hK _ ?_
       clear hK K))
  refine c_done hW ?_
  refine c_seq hW ?_
  refine c_region hW ?_
  repeat (first
    | (refine c_skG hW rfl (by decide) rfl ?_)
    | (refine c_skU hW rfl (by decide) rfl ?_)
    | (first | refine c_rdG hW (by decide) rfl (by decide) rfl (fun K hK => ?_) | refine c_rd hW (by decide) (fun K hK => ?_)
       simp only [Xa, Xb, Xc, Xd, Xe, Xf, Xg, Xh, Xi, Xj, Xk, Xl, Xm, Xn, Xo, Xp, Xq, Xr, Xs, Xt, Xu, Xv, Xw, Xx, Xy, Xz, XA, XB, XD, XE, XF, XG, XH, XI, ev, XJ, upd, args1, args2, args3, args4, XK, XL, XM, extL, XN, XO, XP, XQ, XR, XT, XU, XV, XW, XX, XY, XZ, X0, X1, X2, X3, Addr.add, ↓reduceIte, Nat.reduceLT, Nat.reduceEqDiff, Nat.zero_add, Nat.reduceAdd, Option.map_some, X4, List.getElem_toArray, List.getElem_cons_zero, List.getElem_cons_succ, x_nil, nilL_some, Option.isSome_some, x_f61_1, x_f61_2, x_f58_2, x_cv3_56, x_cv56_21, x_cv56_59, x_cv3_21, convL_int, bin_shl64, bin_shr64, bin_andB, e2, e5]
       refine hK _ ?_
       clear hK K))
  refine c_done hW ?_
  refine c_seq hW ?_
  refine c_seq hW ?_
  refine c_region hW ?_
  have tail : ∀ (f : Nat → Value), f 1 = .int .i64 1 → f 7 = .int .i32 ((v + 1 : Nat) : Int) → f 8 = .int .u32 ((0 : Nat) : Int) →
      Tree P x0 (AtGo P ty Wg e Next S sn) O1 (G (Fr (base 24) 117 f [dcall 39 #[]] [.code (tlC (tlC (tlC (tlC rest16))))]) (c :: cs)) w2 := by
    intro f g1 g7 g8
    refine c_seq hW ?_
    refine c_seq hW ?_
    refine c_region hW ?_
    repeat (first
      | (refine c_skG hW rfl (by decide) rfl ?_)
      | (refine c_skU hW rfl (by decide) rfl ?_)
      | (first | refine c_rdG hW (by decide) rfl (by decide) rfl (fun K hK => ?_) | refine c_rd hW (by decide) (fun K hK => ?_)
         simp only [Xa, Xb, Xc, Xd, Xe, Xf, Xg, Xh, Xi, Xj, Xk, Xl, Xm, Xn, Xo, Xp, Xq, Xr, Xs, Xt, Xu, Xv, Xw, Xx, Xy, Xz, XA, XB, XD, XE, XF, XG, XH, XI, ev, XJ, upd, args1, args2, args3, args4, XK, XL, XM, extL, XN, XO, XP, XQ, XR, XT, XU, XV, XW, XX, XY, XZ, X0, X1, X2, X3, Addr.add, ↓reduceIte, Nat.reduceLT, Nat.reduceEqDiff, Nat.zero_add, Nat.reduceAdd, Option.map_some, X4, List.getElem_toArray, List.getElem_cons_zero, List.getElem_cons_succ, x_nil, nilL_some, Option.isSome_some, x_f61_1, x_f61_2, x_f58_2, x_cv3_56, x_cv56_21, x_cv56_59, x_cv3_21, convL_int, bin_shl64, bin_shr64, bin_andB, g7, e6]
         refine hK _ ?_
         clear hK K))
    refine c_done hW ?_
    refine c_false hW rfl ?_
    refine c_skip hW ?_
    refine c_seq hW ?_
    refine c_seq hW ?_
    refine c_region hW ?_
    repeat (first
      | (refine c_skG hW rfl (by decide) rfl ?_)
      | (refine c_skU hW rfl (by decide) rfl ?_)
      | (first | refine c_rdG hW (by decide) rfl (by decide) rfl (fun K hK => ?_) | refine c_rd hW (by decide) (fun K hK => ?_)
         simp only [Xa, Xb, Xc, Xd, Xe, Xf, Xg, Xh, Xi, Xj, Xk, Xl, Xm, Xn, Xo, Xp, Xq, Xr, Xs, Xt, Xu, Xv, Xw, Xx, Xy, Xz, XA, XB, XD, XE, XF, XG, XH, XI, ev, XJ, upd, args1, args2, args3, args4, XK, XL, XM, extL, XN, XO, XP, XQ, XR, XT, XU, XV, XW, XX, XY, XZ, X0, X1, X2, X3, Addr.add, ↓reduceIte, Nat.reduceLT, Nat.reduceEqDiff, Nat.zero_add, Nat.reduceAdd, Option.map_some, X4, List.getElem_toArray, List.getElem_cons_zero, List.getElem_cons_succ, x_nil, nilL_some, Option.isSome_some, x_f61_1, x_f61_2, x_f58_2, x_cv3_56, x_cv56_21, x_cv56_59, x_cv3_21, convL_int, bin_shl64, bin_shr64, bin_andB, g8, e7]
         refine hK _ ?_
         clear hK K))
    refine c_done hW ?_
    refine c_false hW rfl ?_
    refine c_skip hW ?_
    refine c_seq hW ?_
    refine c_seq hW ?_
    refine c_region hW ?_
    repeat (first
      | (refine c_skG hW rfl (by decide) rfl ?_)
      | (refine c_skU hW rfl (by decide) rfl ?_)
      | (first | refine c_rdG hW (by decide) rfl (by decide) rfl (fun K hK => ?_) | refine c_rd hW (by decide) (fun K hK => ?_)
         simp only [Xa, Xb, Xc, Xd, Xe, Xf, Xg, Xh, Xi, Xj, Xk, Xl, Xm, Xn, Xo, Xp, Xq, Xr, Xs, Xt, Xu, Xv, Xw, Xx, Xy, Xz, XA, XB, XD, XE, XF, XG, XH, XI, ev, XJ, upd, args1, args2, args3, args4, XK, XL, XM, extL, XN, XO, XP, XQ, XR, XT, XU, XV, XW, XX, XY, XZ, X0, X1, X2, X3, Addr.add, ↓reduceIte, Nat.reduceLT, Nat.reduceEqDiff, Nat.zero_add, Nat.reduceAdd, Option.map_some, X4, List.getElem_toArray, List.getElem_cons_zero, List.getElem_cons_succ, x_nil, nilL_some, Option.isSome_some, x_f61_1, x_f61_2, x_f58_2, x_cv3_56, x_cv56_21, x_cv56_59, x_cv3_21, convL_int, bin_shl64, bin_shr64, bin_andB, g7, e10]
         refine hK _ ?_
         clear hK K))
    refine c_done hW ?_
    refine c_true hW rfl ?_
    refine c_ret hW ?_
    exact fin _ _
  by_cases hv0 : v = 0
  · have e11 : ((((v + 1 : Nat) : Int)) == 1) = true := by subst hv0; decide
    repeat (first
      | (refine c_skG hW rfl (by decide) rfl ?_)
      | (refine c_skU hW rfl (by decide) rfl ?_)
      | (first | refine c_rdG hW (by decide) rfl (by decide) rfl (fun K hK => ?_) | refine c_rd hW (by decide) (fun K hK => ?_)
         simp only [Xa, Xb, Xc, Xd, Xe, Xf, Xg, Xh, Xi, Xj, Xk, Xl, Xm, Xn, Xo, Xp, Xq, Xr, Xs, Xt, Xu, Xv, Xw, Xx, Xy, Xz, XA, XB, XD, XE, XF, XG, XH, XI, ev, XJ, upd, args1, args2, args3, args4, XK, XL, XM, extL, XN, XO, XP, XQ, XR, XT, XU, XV, XW, XX, XY, XZ, X0, X1, X2, X3, Addr.add, ↓reduceIte, Nat.reduceLT, Nat.reduceEqDiff, Nat.zero_add, Nat.reduceAdd, Option.map_some, X4, List.getElem_toArray, List.getElem_cons_zero, List.getElem_cons_succ, x_nil, nilL_some, Option.isSome_some, x_f61_1, x_f61_2, x_f58_2, x_cv3_56, x_cv56_21, x_cv56_59, x_cv3_21, convL_int, bin_shl64, bin_shr64, bin_andB, e9, e8, e11]
         refine hK _ ?_
         clear hK K))
    refine c_done hW ?_
    refine c_true hW rfl ?_
    refine c_region hW ?_
    iterate 3 (first
      | (refine c_skG hW rfl (by decide) rfl ?_)
      | (refine c_skU hW rfl (by decide) rfl ?_)
      | (first | refine c_rdG hW (by decide) rfl (by decide) rfl (fun K hK => ?_) | refine c_rd hW (by decide) (fun K hK => ?_)
         simp only [Xa, Xb, Xc, Xd, Xe, Xf, Xg, Xh, Xi, Xj, Xk, Xl, Xm, Xn, Xo, Xp, Xq, Xr, Xs, Xt, Xu, Xv, Xw, Xx, Xy, Xz, XA, XB, XD, XE, XF, XG, XH, XI, ev, XJ, upd, args1, args2, args3, args4, XK, XL, XM, extL, XN, XO, XP, XQ, XR, XT, XU, XV, XW, XX, XY, XZ, X0, X1, X2, X3, Addr.add, ↓reduceIte, Nat.reduceLT, Nat.reduceEqDiff, Nat.zero_add, Nat.reduceAdd, Option.map_some, X4, List.getElem_toArray, List.getElem_cons_zero, List.getElem_cons_succ, x_nil, nilL_some, Option.isSome_some, x_f61_1, x_f61_2, x_f58_2, x_cv3_56, x_cv56_21, x_cv56_59, x_cv3_21, convL_int, bin_shl64, bin_shr64, bin_andB]
         refine hK _ ?_
         clear hK K))
    refine t_conv (ts := 59) (ad := ⟨Wg, 1, none⟩) (el := ty) (nn := 2) (by decide) rfl rfl rfl (by simp only [Xa, Xb, Xc, Xd, Xe, Xf, Xg, Xh, Xi, Xj, Xk, Xl, Xm, Xn, Xo, Xp, Xq, Xr, Xs, Xt, Xu, Xv, Xw, Xx, Xy, Xz, XA, XB, XD, XE, XF, XG, XH, XI, ev, XJ, upd, args1, args2, args3, args4, XK, XL, XM, extL, XN, XO, XP, XQ, XR, XT, XU, XV, XW, XX, XY, XZ, X0, X1, X2, X3, Addr.add, ↓reduceIte, Nat.reduceLT, Nat.reduceEqDiff, Nat.zero_add, Nat.reduceAdd, Option.map_some, X4, List.getElem_toArray, List.getElem_cons_zero, List.getElem_cons_succ, x_nil, nilL_some, Option.isSome_some, x_f61_1, x_f61_2, x_f58_2, x_cv3_56, x_cv56_21, x_cv56_59, x_cv3_21, convL_int, bin_shl64, bin_shr64, bin_andB, a1]) rfl hsy1 hsh1 (Nat.lt_succ_self 1) ?_
    refine t_said .read (.inl rfl) (by decide) Try.func45 nm45 rfl nx45 ex45 (ad := ⟨Wg, 1, none⟩) (by simp only [List.map_toArray, List.map_cons, List.map_nil, Xa, Xb, Xc, Xd, Xe, Xf, Xg, Xh, Xi, Xj, Xk, Xl, Xm, Xn, Xo, Xp, Xq, Xr, Xs, Xt, Xu, Xv, Xw, Xx, Xy, Xz, XA, XB, XD, XE, XF, XG, XH, XI, ev, XJ, upd, args1, args2, args3, args4, XK, XL, XM, extL, XN, XO, XP, XQ, XR, XT, XU, XV, XW, XX, XY, XZ, X0, X1, X2, X3, Addr.add, ↓reduceIte, Nat.reduceLT, Nat.reduceEqDiff, Nat.zero_add, Nat.reduceAdd, Option.map_some, X4, List.getElem_toArray, List.getElem_cons_zero, List.getElem_cons_succ, x_nil, nilL_some, Option.isSome_some, x_f61_1, x_f61_2, x_f58_2, x_cv3_56, x_cv56_21, x_cv56_59, x_cv3_21, convL_int, bin_shl64, bin_shr64, bin_andB]; rfl) rfl (fun O3 w3 r3 => ⟨r3.sy _ (shape_lt hsh1) hsy1, Nat.lt_of_lt_of_le (shape_lt hsh1) r3.size⟩) ?_
    refine t_done ?_
    exact tail _ rfl rfl rfl
  · have e11 : ((((v + 1 : Nat) : Int)) == 1) = false := by simp; omega
    repeat (first
      | (refine c_skG hW rfl (by decide) rfl ?_)
      | (refine c_skU hW rfl (by decide) rfl ?_)
      | (first | refine c_rdG hW (by decide) rfl (by decide) rfl (fun K hK => ?_) | refine c_rd hW (by decide) (fun K hK => ?_)
         simp only [Xa, Xb, Xc, Xd, Xe, Xf, Xg, Xh, Xi, Xj, Xk, Xl, Xm, Xn, Xo, Xp, Xq, Xr, Xs, Xt, Xu, Xv, Xw, Xx, Xy, Xz, XA, XB, XD, XE, XF, XG, XH, XI, ev, XJ, upd, args1, args2, args3, args4, XK, XL, XM, extL, XN, XO, XP, XQ, XR, XT, XU, XV, XW, XX, XY, XZ, X0, X1, X2, X3, Addr.add, ↓reduceIte, Nat.reduceLT, Nat.reduceEqDiff, Nat.zero_add, Nat.reduceAdd, Option.map_some, X4, List.getElem_toArray, List.getElem_cons_zero, List.getElem_cons_succ, x_nil, nilL_some, Option.isSome_some, x_f61_1, x_f61_2, x_f58_2, x_cv3_56, x_cv56_21, x_cv56_59, x_cv3_21, convL_int, bin_shl64, bin_shr64, bin_andB, e9, e8, e11]
         refine hK _ ?_
         clear hK K))
    refine c_done hW ?_
    refine c_false hW rfl ?_
    refine c_skip hW ?_
    exact tail _ rfl rfl rfl
end Go.Proofs.Ytdajdembeacefaa.M

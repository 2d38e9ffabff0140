/-
  sync.WaitGroup's Done, as a sender's deferred call: to its release, its atomic acts, its end.
-/
import Derived.Test.YtdajdembeacefaaAD
set_option linter.unusedSimpArgs false
set_option linter.unusedVariables false
namespace Go.Proofs.Ytdajdembeacefaa.M
open Go.Conc
open Go.ConcR (KK WgAt stA smA rd wr mk)

section
variable {main : Bool} {w : World} {b : Frame} {n : Nat} {f : Nat → Value} {ds : List Deferred} {k : List Item} {cs : List Frame} {ops : Array Oper} {rest : List Nat} {i : Nat} {d : Nat} {t : TypeId} {p : String} {e : Array Edge} {fn : FuncId} {F : Func} {ats : Array TypeId} {ad : Addr}
theorem st_load {y : Operand} {v : Int} (ho : ops[i]? = some ⟨some d, .call { callee := .value (.func fn), args := #[y], argTypes := ats }, t, p, e, none⟩) (hk : b.kind ≠ .early) (hf : P.funcs[fn]? = some F) (hname : (F.name == "runtime.NumGoroutine") = false)
    (hb : F.body.isNone = true) (hn : Extern.findNext F = none) (he : Extern.find F = some (Extern.Atomic.loadT (.int .u64))) (hy : ev n f y = .pointer (some ad)) (hc : w.cell? ad = some (.int .u64 v)) :
    stepG P main (G (Fr b n f ds (.inRegion ops (i :: rest) :: k)) cs) w = .go (G (Fr b n (upd f d (.int .u64 v)) ds (.inRegion ops rest :: k)) cs) w #[rd ad] := by
  have := stepG_load_atomic (P := P) (main := main) (b := b) (a := ⟨mkT n f, ds⟩) (kk := k) (cs := cs) (w := w) (rest := rest) ho rfl hk rfl hf hname hb hn .u64 he (ad := ad) (v := v) (by rw [eval_mkT]; exact hy) hc
  rw [put_mkT] at this; exact this
theorem st_store {y z : Operand} {v : Int} {u : Value} (ho : ops[i]? = some ⟨some d, .call { callee := .value (.func fn), args := #[y, z], argTypes := ats }, t, p, e, none⟩) (hk : b.kind ≠ .early) (hf : P.funcs[fn]? = some F) (hname : (F.name == "runtime.NumGoroutine") = false)
    (hb : F.body.isNone = true) (hn : Extern.findNext F = none) (he : Extern.find F = some Extern.Atomic.storeT) (hy : ev n f y = .pointer (some ad)) (hz : ev n f z = .int .u64 v) (hc : w.cell? ad = some u) (hth : w.frozen? ad = false) :
    stepG P main (G (Fr b n f ds (.inRegion ops (i :: rest) :: k)) cs) w = .go (G (Fr b n (upd f d (.tuple #[])) ds (.inRegion ops rest :: k)) cs) (w.setCell ad (.int .u64 v)) #[wr ad] := by
  have := stepG_store_atomic (P := P) (main := main) (b := b) (a := ⟨mkT n f, ds⟩) (kk := k) (cs := cs) (w := w) (rest := rest) ho rfl hk rfl hf hname hb hn he (ad := ad) (k := .u64) (v := v) (by rw [eval_mkT]; exact hy) (by rw [eval_mkT]; exact hz) hc hth
  rw [put_mkT] at this; exact this
theorem st_add {y z : Operand} {v dd : Int} (ho : ops[i]? = some ⟨some d, .call { callee := .value (.func fn), args := #[y, z], argTypes := ats }, t, p, e, none⟩) (hk : b.kind ≠ .early) (hf : P.funcs[fn]? = some F) (hname : (F.name == "runtime.NumGoroutine") = false)
    (hb : F.body.isNone = true) (hn : Extern.findNext F = none) (he : Extern.find F = some (Extern.Atomic.update (Op.intArith .add) .u64 true)) (hy : ev n f y = .pointer (some ad)) (hz : ev n f z = .int .u64 dd) (hc : w.cell? ad = some (.int .u64 v)) (hth : w.frozen? ad = false) {r : Int} (hr : IntKind.u64.wrap (v + dd) = r) :
    stepG P main (G (Fr b n f ds (.inRegion ops (i :: rest) :: k)) cs) w = .go (G (Fr b n (upd f d (.int .u64 r)) ds (.inRegion ops rest :: k)) cs) (w.setCell ad (.int .u64 r)) #[rd ad, wr ad] := by
  subst hr
  have := stepG_add_atomic (P := P) (main := main) (b := b) (a := ⟨mkT n f, ds⟩) (kk := k) (cs := cs) (w := w) (rest := rest) ho rfl hk rfl hf hname hb hn .u64 he (ad := ad) (v := v) (d := dd) (by rw [eval_mkT]; exact hy) (by rw [eval_mkT]; exact hz) hc hth
  rw [put_mkT] at this; exact this
theorem st_cas {y z u : Operand} {v nw : Int} (ho : ops[i]? = some ⟨some d, .call { callee := .value (.func fn), args := #[y, z, u], argTypes := ats }, t, p, e, none⟩) (hk : b.kind ≠ .early) (hf : P.funcs[fn]? = some F) (hname : (F.name == "runtime.NumGoroutine") = false)
    (hb : F.body.isNone = true) (hn : Extern.findNext F = none) (he : Extern.find F = some (Extern.Atomic.casT (.int .u64))) (hy : ev n f y = .pointer (some ad)) (hz : ev n f z = .int .u64 v) (hu : ev n f u = .int .u64 nw) (hc : w.cell? ad = some (.int .u64 v)) (hth : w.frozen? ad = false) :
    stepG P main (G (Fr b n f ds (.inRegion ops (i :: rest) :: k)) cs) w = .go (G (Fr b n (upd f d (.bool true)) ds (.inRegion ops rest :: k)) cs) (w.setCell ad (.int .u64 nw)) #[rd ad, wr ad] := by
  have := stepG_cas_hit (P := P) (main := main) (b := b) (a := ⟨mkT n f, ds⟩) (kk := k) (cs := cs) (w := w) (rest := rest) ho rfl hk rfl hf hname hb hn .u64 he (ad := ad) (v := v) (n := nw) (by rw [eval_mkT]; exact hy) (by rw [eval_mkT]; exact hz) (by rw [eval_mkT]; exact hu) hc hth
  rw [put_mkT] at this; exact this
theorem st_casMiss {y z u : Operand} {v old nw : Int} (ho : ops[i]? = some ⟨some d, .call { callee := .value (.func fn), args := #[y, z, u], argTypes := ats }, t, p, e, none⟩) (hk : b.kind ≠ .early) (hf : P.funcs[fn]? = some F) (hname : (F.name == "runtime.NumGoroutine") = false)
    (hb : F.body.isNone = true) (hn : Extern.findNext F = none) (he : Extern.find F = some (Extern.Atomic.casT (.int .u64))) (hy : ev n f y = .pointer (some ad)) (hz : ev n f z = .int .u64 old) (hu : ev n f u = .int .u64 nw) (hc : w.cell? ad = some (.int .u64 v)) (hth : w.frozen? ad = false) (hne : ¬ v = old) :
    stepG P main (G (Fr b n f ds (.inRegion ops (i :: rest) :: k)) cs) w = .go (G (Fr b n (upd f d (.bool false)) ds (.inRegion ops rest :: k)) cs) w #[rd ad] := by
  have := stepG_cas_miss (P := P) (main := main) (b := b) (a := ⟨mkT n f, ds⟩) (kk := k) (cs := cs) (w := w) (rest := rest) ho rfl hk rfl hf hname hb hn .u64 he (ad := ad) (v := v) (old := old) (n := nw) (by rw [eval_mkT]; exact hy) (by rw [eval_mkT]; exact hz) (by rw [eval_mkT]; exact hu) hc hth hne
  rw [put_mkT] at this; exact this
theorem st_markAt {y : Operand} (mk : Addr → Mark) (hm : ∀ ad g, mk ad ≠ .extern g) (ho : ops[i]? = some ⟨some d, .call { callee := .value (.func fn), args := #[y], argTypes := ats }, t, p, e, none⟩) (hk : b.kind ≠ .early) (hf : P.funcs[fn]? = some F) (hname : (F.name == "runtime.NumGoroutine") = false)
    (hb : F.body.isNone = true) (hn : Extern.findNext F = none) (he : Extern.find F = some (Extern.Race.marked mk)) (hy : ev n f y = .pointer (some ad)) :
    stepG P main (G (Fr b n f ds (.inRegion ops (i :: rest) :: k)) cs) w = .go (G (Fr b n (upd f d (.tuple #[])) ds (.inRegion ops rest :: k)) cs) w #[⟨.mark (mk ad), false, true⟩] := by
  have := stepG_markAt (P := P) (main := main) (b := b) (a := ⟨mkT n f, ds⟩) (kk := k) (cs := cs) (w := w) (rest := rest) mk hm ho rfl hk rfl hf hname hb hn he (ad := ad) (by rw [eval_mkT]; simp [hy])
  rw [put_mkT] at this; exact this
theorem st_semrelease {y : Operand} {ys : List Operand} {v r : Int} (ho : ops[i]? = some ⟨some d, .call { callee := .value (.func fn), args := (y :: ys).toArray, argTypes := ats }, t, p, e, none⟩) (hk : b.kind ≠ .early) (hf : P.funcs[fn]? = some F) (hname : (F.name == "runtime.NumGoroutine") = false)
    (hb : F.body.isNone = true) (hn : Extern.findNext F = none) (he : Extern.find F = some Extern.Sync.semrelease) (hy : ev n f y = .pointer (some ad)) (hc : w.cell? ad = some (.int .u32 v)) (hth : w.frozen? ad = false) (hr : IntKind.u32.wrap (v + 1) = r) :
    stepG P main (G (Fr b n f ds (.inRegion ops (i :: rest) :: k)) cs) w = .go (G (Fr b n (upd f d (.tuple #[])) ds (.inRegion ops rest :: k)) cs) (w.setCell ad (.int .u32 r)) (semEvents ad) := by
  subst hr
  have := stepG_semrelease (P := P) (main := main) (b := b) (a := ⟨mkT n f, ds⟩) (kk := k) (cs := cs) (w := w) (rest := rest) ho rfl hk rfl hf hname hb hn he (ad := ad) (n := v) (by rw [eval_mkT]; simp [hy]) hc hth
  rw [put_mkT] at this; exact this
theorem st_semacquire {y : Operand} {ys : List Operand} {v : Int} (ho : ops[i]? = some ⟨some d, .call { callee := .value (.func fn), args := (y :: ys).toArray, argTypes := ats }, t, p, e, none⟩) (hk : b.kind ≠ .early) (hf : P.funcs[fn]? = some F) (hname : (F.name == "runtime.NumGoroutine") = false)
    (hb : F.body.isNone = true) (hn : Extern.findNext F = none) (he : Extern.find F = some Extern.Sync.semacquire) (hy : ev n f y = .pointer (some ad)) (hc : w.cell? ad = some (.int .u32 v)) (hth : w.frozen? ad = false) (hv : v ≠ 0) :
    stepG P main (G (Fr b n f ds (.inRegion ops (i :: rest) :: k)) cs) w = .go (G (Fr b n (upd f d (.tuple #[])) ds (.inRegion ops rest :: k)) cs) (w.setCell ad (.int .u32 (v - 1))) (semEvents ad) := by
  have := stepG_semacquire (P := P) (main := main) (b := b) (a := ⟨mkT n f, ds⟩) (kk := k) (cs := cs) (w := w) (rest := rest) ho rfl hk rfl hf hname hb hn he (ad := ad) (n := v) (by rw [eval_mkT]; simp [hy]) hc hv hth
  rw [put_mkT] at this; exact this
theorem st_semwait {y : Operand} {ys : List Operand} (ho : ops[i]? = some ⟨some d, .call { callee := .value (.func fn), args := (y :: ys).toArray, argTypes := ats }, t, p, e, none⟩) (hf : P.funcs[fn]? = some F) (hname : (F.name == "runtime.NumGoroutine") = false)
    (hb : F.body.isNone = true) (hn : Extern.findNext F = none) (he : Extern.find F = some Extern.Sync.semacquire) (hy : ev n f y = .pointer (some ad)) (hc : w.cell? ad = some (.int .u32 0)) :
    stepG P main (G (Fr b n f ds (.inRegion ops (i :: rest) :: k)) cs) w = .go { G (Fr b n f ds (.inRegion ops (i :: rest) :: k)) cs with status := .blocked } w #[] :=
  stepG_semacquire_wait (P := P) (main := main) (b := b) (a := ⟨mkT n f, ds⟩) (kk := k) (cs := cs) (w := w) (rest := rest) ho rfl rfl hf hname hb hn he (ad := ad) (by rw [eval_mkT]; simp [hy]) hc
end

noncomputable def body24 : Code := (Try.f24).body.getD .skip
noncomputable def rest16 : Code := tlC (tlC (tlC (tlC body24)))
noncomputable def rest27 : Code := tlC (tlC (tlC (tlC (tlC (tlC (tlC rest16))))))

set_option maxHeartbeats 4000000 in
/-- Behind the atomic add: done, or the last one while somebody waits. -/
theorem add16 {main : Bool} {W : Goroutine → Prop} (hW : Ctl main W) (v wt : Nat) (hv : v < 2147483647) (hwt : wt ≤ 1) (Wg : Nat) (c : Frame) (cs : List Frame) (f : Nat → Value) (h0 : f 0 = ptr Wg 0) (h1 : f 1 = .int .i64 (-1))
    (h4 : f 4 = .bool false) (h6 : f 6 = .int .u64 (stN v wt))
    (hA : ¬ (v = 0 ∧ wt = 1) → ∀ f todo, W (G { Fr (base 24) 117 f [dcall 39 #[]] todo with mode := .returning } (c :: cs)))
    (hB : v = 0 ∧ wt = 1 → ∀ f, f 0 = ptr Wg 0 → f 4 = .bool false → f 6 = .int .u64 1 → f 8 = .int .u32 1 → W (G (Fr (base 24) 117 f [dcall 39 #[]] [.code rest27]) (c :: cs))) :
    W (G (Fr (base 24) 117 f [dcall 39 #[]] [.code rest16]) (c :: cs)) := by
  have e1 := st_fl v wt (by omega) hwt
  have e2 := st_wt v wt (by omega) hwt
  have e3 := st_fdiv v wt hwt
  have e4 := st_i32 v (by omega)
  have e5 := st_u32 wt hwt
  have e6 : decide ((v : Int) < 0) = false := by simp
  refine c_seq hW ?_
  refine c_seq hW ?_
  refine c_region hW ?_
  repeat (first
    | (refine c_skG hW rfl (by decide) rfl ?_)
    | (refine c_skU hW rfl (by decide) rfl ?_)
    | (first | refine c_rdG hW (by decide) rfl (by decide) rfl (fun K hK => ?_) | refine c_rd hW (by decide) (fun K hK => ?_)
       simp only [Xa, Xb, Xc, Xd, Xe, Xf, Xg, Xh, Xi, Xj, Xk, Xl, Xm, Xn, Xo, Xp, Xq, Xr, Xs, Xt, Xu, Xv, Xw, Xx, Xy, Xz, XA, XB, XD, XE, XF, XG, XH, XI, ev, XJ, upd, args1, args2, args3, args4, XK, XL, XM, extL, XN, XO, XP, XQ, XR, XT, XU, XV, XW, XX, XY, XZ, X0, X1, X2, X3, Addr.add, ↓reduceIte, Nat.reduceLT, Nat.reduceEqDiff, Nat.zero_add, Nat.reduceAdd, Option.map_some, X4, List.getElem_toArray, List.getElem_cons_zero, List.getElem_cons_succ, x_nil, nilL_some, Option.isSome_some, x_f61_1, x_f61_2, x_f58_2, x_cv3_56, x_cv56_21, x_cv56_59, x_cv3_21, convL_int, bin_shl64, bin_shr64, bin_andB, h6, e1, bne00]
       refine hK _ ?_
       clear hK K))
  refine c_done hW ?_
  refine c_false hW rfl ?_
  refine c_skip hW ?_
  refine c_seq hW ?_
  refine c_region hW ?_
  repeat (first
    | (refine c_skG hW rfl (by decide) rfl ?_)
    | (refine c_skU hW rfl (by decide) rfl ?_)
    | (first | refine c_rdG hW (by decide) rfl (by decide) rfl (fun K hK => ?_) | refine c_rd hW (by decide) (fun K hK => ?_)
       simp only [Xa, Xb, Xc, Xd, Xe, Xf, Xg, Xh, Xi, Xj, Xk, Xl, Xm, Xn, Xo, Xp, Xq, Xr, Xs, Xt, Xu, Xv, Xw, Xx, Xy, Xz, XA, XB, XD, XE, XF, XG, XH, XI, ev, XJ, upd, args1, args2, args3, args4, XK, XL, XM, extL, XN, XO, XP, XQ, XR, XT, XU, XV, XW, XX, XY, XZ, X0, X1, X2, X3, Addr.add, ↓reduceIte, Nat.reduceLT, Nat.reduceEqDiff, Nat.zero_add, Nat.reduceAdd, Option.map_some, X4, List.getElem_toArray, List.getElem_cons_zero, List.getElem_cons_succ, x_nil, nilL_some, Option.isSome_some, x_f61_1, x_f61_2, x_f58_2, x_cv3_56, x_cv56_21, x_cv56_59, x_cv3_21, convL_int, bin_shl64, bin_shr64, bin_andB, h6, e3, e4]
       refine hK _ ?_
       clear hK K))
  refine c_done hW ?_
  refine c_seq hW ?_
  refine c_region hW ?_
  repeat (first
    | (refine c_skG hW rfl (by decide) rfl ?_)
    | (refine c_skU hW rfl (by decide) rfl ?_)
    | (first | refine c_rdG hW (by decide) rfl (by decide) rfl (fun K hK => ?_) | refine c_rd hW (by decide) (fun K hK => ?_)
       simp only [Xa, Xb, Xc, Xd, Xe, Xf, Xg, Xh, Xi, Xj, Xk, Xl, Xm, Xn, Xo, Xp, Xq, Xr, Xs, Xt, Xu, Xv, Xw, Xx, Xy, Xz, XA, XB, XD, XE, XF, XG, XH, XI, ev, XJ, upd, args1, args2, args3, args4, XK, XL, XM, extL, XN, XO, XP, XQ, XR, XT, XU, XV, XW, XX, XY, XZ, X0, X1, X2, X3, Addr.add, ↓reduceIte, Nat.reduceLT, Nat.reduceEqDiff, Nat.zero_add, Nat.reduceAdd, Option.map_some, X4, List.getElem_toArray, List.getElem_cons_zero, List.getElem_cons_succ, x_nil, nilL_some, Option.isSome_some, x_f61_1, x_f61_2, x_f58_2, x_cv3_56, x_cv56_21, x_cv56_59, x_cv3_21, convL_int, bin_shl64, bin_shr64, bin_andB, h6, e2, e5]
       refine hK _ ?_
       clear hK K))
  refine c_done hW ?_
  refine c_seq hW ?_
  refine c_seq hW ?_
  refine c_region hW ?_
  repeat (first
    | (refine c_skG hW rfl (by decide) rfl ?_)
    | (refine c_skU hW rfl (by decide) rfl ?_)
    | (first | refine c_rdG hW (by decide) rfl (by decide) rfl (fun K hK => ?_) | refine c_rd hW (by decide) (fun K hK => ?_)
       simp only [Xa, Xb, Xc, Xd, Xe, Xf, Xg, Xh, Xi, Xj, Xk, Xl, Xm, Xn, Xo, Xp, Xq, Xr, Xs, Xt, Xu, Xv, Xw, Xx, Xy, Xz, XA, XB, XD, XE, XF, XG, XH, XI, ev, XJ, upd, args1, args2, args3, args4, XK, XL, XM, extL, XN, XO, XP, XQ, XR, XT, XU, XV, XW, XX, XY, XZ, X0, X1, X2, X3, Addr.add, ↓reduceIte, Nat.reduceLT, Nat.reduceEqDiff, Nat.zero_add, Nat.reduceAdd, Option.map_some, X4, List.getElem_toArray, List.getElem_cons_zero, List.getElem_cons_succ, x_nil, nilL_some, Option.isSome_some, x_f61_1, x_f61_2, x_f58_2, x_cv3_56, x_cv56_21, x_cv56_59, x_cv3_21, convL_int, bin_shl64, bin_shr64, bin_andB, h1, dec0]
       refine hK _ ?_
       clear hK K))
  refine c_done hW ?_
  refine c_false hW rfl ?_
  refine c_skip hW ?_
  refine c_seq hW ?_
  refine c_seq hW ?_
  refine c_region hW ?_
  repeat (first
    | (refine c_skG hW rfl (by decide) rfl ?_)
    | (refine c_skU hW rfl (by decide) rfl ?_)
    | (first | refine c_rdG hW (by decide) rfl (by decide) rfl (fun K hK => ?_) | refine c_rd hW (by decide) (fun K hK => ?_)
       simp only [Xa, Xb, Xc, Xd, Xe, Xf, Xg, Xh, Xi, Xj, Xk, Xl, Xm, Xn, Xo, Xp, Xq, Xr, Xs, Xt, Xu, Xv, Xw, Xx, Xy, Xz, XA, XB, XD, XE, XF, XG, XH, XI, ev, XJ, upd, args1, args2, args3, args4, XK, XL, XM, extL, XN, XO, XP, XQ, XR, XT, XU, XV, XW, XX, XY, XZ, X0, X1, X2, X3, Addr.add, ↓reduceIte, Nat.reduceLT, Nat.reduceEqDiff, Nat.zero_add, Nat.reduceAdd, Option.map_some, X4, List.getElem_toArray, List.getElem_cons_zero, List.getElem_cons_succ, x_nil, nilL_some, Option.isSome_some, x_f61_1, x_f61_2, x_f58_2, x_cv3_56, x_cv56_21, x_cv56_59, x_cv3_21, convL_int, bin_shl64, bin_shr64, bin_andB, e6]
       refine hK _ ?_
       clear hK K))
  refine c_done hW ?_
  refine c_false hW rfl ?_
  refine c_skip hW ?_
  refine c_seq hW ?_
  refine c_seq hW ?_
  refine c_region hW ?_
  rcases (show wt = 0 ∨ wt = 1 by omega) with rfl | rfl
  · have e7 : (((0 : Nat) : Int) != 0) = false := by decide
    have e8 : (((0 : Nat) : Int) == 0) = true := by decide
    repeat (first
      | (refine c_skG hW rfl (by decide) rfl ?_)
      | (refine c_skU hW rfl (by decide) rfl ?_)
      | (first | refine c_rdG hW (by decide) rfl (by decide) rfl (fun K hK => ?_) | refine c_rd hW (by decide) (fun K hK => ?_)
         simp only [Xa, Xb, Xc, Xd, Xe, Xf, Xg, Xh, Xi, Xj, Xk, Xl, Xm, Xn, Xo, Xp, Xq, Xr, Xs, Xt, Xu, Xv, Xw, Xx, Xy, Xz, XA, XB, XD, XE, XF, XG, XH, XI, ev, XJ, upd, args1, args2, args3, args4, XK, XL, XM, extL, XN, XO, XP, XQ, XR, XT, XU, XV, XW, XX, XY, XZ, X0, X1, X2, X3, Addr.add, ↓reduceIte, Nat.reduceLT, Nat.reduceEqDiff, Nat.zero_add, Nat.reduceAdd, Option.map_some, X4, List.getElem_toArray, List.getElem_cons_zero, List.getElem_cons_succ, x_nil, nilL_some, Option.isSome_some, x_f61_1, x_f61_2, x_f58_2, x_cv3_56, x_cv56_21, x_cv56_59, x_cv3_21, convL_int, bin_shl64, bin_shr64, bin_andB, h1, dec0, e7]
         refine hK _ ?_
         clear hK K))
    refine c_done hW ?_
    refine c_false hW rfl ?_
    refine c_skip hW ?_
    refine c_seq hW ?_
    refine c_seq hW ?_
    refine c_region hW ?_
    by_cases hv0 : 0 < v
    · have e9 : decide ((0 : Int) < (v : Int)) = true := by simp; omega
      repeat (first
        | (refine c_skG hW rfl (by decide) rfl ?_)
        | (refine c_skU hW rfl (by decide) rfl ?_)
        | (first | refine c_rdG hW (by decide) rfl (by decide) rfl (fun K hK => ?_) | refine c_rd hW (by decide) (fun K hK => ?_)
           simp only [Xa, Xb, Xc, Xd, Xe, Xf, Xg, Xh, Xi, Xj, Xk, Xl, Xm, Xn, Xo, Xp, Xq, Xr, Xs, Xt, Xu, Xv, Xw, Xx, Xy, Xz, XA, XB, XD, XE, XF, XG, XH, XI, ev, XJ, upd, args1, args2, args3, args4, XK, XL, XM, extL, XN, XO, XP, XQ, XR, XT, XU, XV, XW, XX, XY, XZ, X0, X1, X2, X3, Addr.add, ↓reduceIte, Nat.reduceLT, Nat.reduceEqDiff, Nat.zero_add, Nat.reduceAdd, Option.map_some, X4, List.getElem_toArray, List.getElem_cons_zero, List.getElem_cons_succ, x_nil, nilL_some, Option.isSome_some, x_f61_1, x_f61_2, x_f58_2, x_cv3_56, x_cv56_21, x_cv56_59, x_cv3_21, convL_int, bin_shl64, bin_shr64, bin_andB, e9, e8]
           refine hK _ ?_
           clear hK K))
      refine c_done hW ?_
      refine c_true hW rfl ?_
      refine c_ret hW ?_
      exact hA (by omega) _ _
    · have e9 : decide ((0 : Int) < (v : Int)) = false := by simp; omega
      repeat (first
        | (refine c_skG hW rfl (by decide) rfl ?_)
        | (refine c_skU hW rfl (by decide) rfl ?_)
        | (first | refine c_rdG hW (by decide) rfl (by decide) rfl (fun K hK => ?_) | refine c_rd hW (by decide) (fun K hK => ?_)
           simp only [Xa, Xb, Xc, Xd, Xe, Xf, Xg, Xh, Xi, Xj, Xk, Xl, Xm, Xn, Xo, Xp, Xq, Xr, Xs, Xt, Xu, Xv, Xw, Xx, Xy, Xz, XA, XB, XD, XE, XF, XG, XH, XI, ev, XJ, upd, args1, args2, args3, args4, XK, XL, XM, extL, XN, XO, XP, XQ, XR, XT, XU, XV, XW, XX, XY, XZ, X0, X1, X2, X3, Addr.add, ↓reduceIte, Nat.reduceLT, Nat.reduceEqDiff, Nat.zero_add, Nat.reduceAdd, Option.map_some, X4, List.getElem_toArray, List.getElem_cons_zero, List.getElem_cons_succ, x_nil, nilL_some, Option.isSome_some, x_f61_1, x_f61_2, x_f58_2, x_cv3_56, x_cv56_21, x_cv56_59, x_cv3_21, convL_int, bin_shl64, bin_shr64, bin_andB, e9, e8]
           refine hK _ ?_
           clear hK K))
      refine c_done hW ?_
      refine c_true hW rfl ?_
      refine c_ret hW ?_
      exact hA (by omega) _ _
  · have e7 : (((1 : Nat) : Int) != 0) = true := by decide
    have e8 : (((1 : Nat) : Int) == 0) = false := by decide
    repeat (first
      | (refine c_skG hW rfl (by decide) rfl ?_)
      | (refine c_skU hW rfl (by decide) rfl ?_)
      | (first | refine c_rdG hW (by decide) rfl (by decide) rfl (fun K hK => ?_) | refine c_rd hW (by decide) (fun K hK => ?_)
         simp only [Xa, Xb, Xc, Xd, Xe, Xf, Xg, Xh, Xi, Xj, Xk, Xl, Xm, Xn, Xo, Xp, Xq, Xr, Xs, Xt, Xu, Xv, Xw, Xx, Xy, Xz, XA, XB, XD, XE, XF, XG, XH, XI, ev, XJ, upd, args1, args2, args3, args4, XK, XL, XM, extL, XN, XO, XP, XQ, XR, XT, XU, XV, XW, XX, XY, XZ, X0, X1, X2, X3, Addr.add, ↓reduceIte, Nat.reduceLT, Nat.reduceEqDiff, Nat.zero_add, Nat.reduceAdd, Option.map_some, X4, List.getElem_toArray, List.getElem_cons_zero, List.getElem_cons_succ, x_nil, nilL_some, Option.isSome_some, x_f61_1, x_f61_2, x_f58_2, x_cv3_56, x_cv56_21, x_cv56_59, x_cv3_21, convL_int, bin_shl64, bin_shr64, bin_andB, h1, dec0, e7]
         refine hK _ ?_
         clear hK K))
    refine c_done hW ?_
    refine c_false hW rfl ?_
    refine c_skip hW ?_
    refine c_seq hW ?_
    refine c_seq hW ?_
    refine c_region hW ?_
    by_cases hv0 : 0 < v
    · have e9 : decide ((0 : Int) < (v : Int)) = true := by simp; omega
      repeat (first
        | (refine c_skG hW rfl (by decide) rfl ?_)
        | (refine c_skU hW rfl (by decide) rfl ?_)
        | (first | refine c_rdG hW (by decide) rfl (by decide) rfl (fun K hK => ?_) | refine c_rd hW (by decide) (fun K hK => ?_)
           simp only [Xa, Xb, Xc, Xd, Xe, Xf, Xg, Xh, Xi, Xj, Xk, Xl, Xm, Xn, Xo, Xp, Xq, Xr, Xs, Xt, Xu, Xv, Xw, Xx, Xy, Xz, XA, XB, XD, XE, XF, XG, XH, XI, ev, XJ, upd, args1, args2, args3, args4, XK, XL, XM, extL, XN, XO, XP, XQ, XR, XT, XU, XV, XW, XX, XY, XZ, X0, X1, X2, X3, Addr.add, ↓reduceIte, Nat.reduceLT, Nat.reduceEqDiff, Nat.zero_add, Nat.reduceAdd, Option.map_some, X4, List.getElem_toArray, List.getElem_cons_zero, List.getElem_cons_succ, x_nil, nilL_some, Option.isSome_some, x_f61_1, x_f61_2, x_f58_2, x_cv3_56, x_cv56_21, x_cv56_59, x_cv3_21, convL_int, bin_shl64, bin_shr64, bin_andB, e9, e8]
           refine hK _ ?_
           clear hK K))
      refine c_done hW ?_
      refine c_true hW rfl ?_
      refine c_ret hW ?_
      exact hA (by omega) _ _
    · have e9 : decide ((0 : Int) < (v : Int)) = false := by simp; omega
      repeat (first
        | (refine c_skG hW rfl (by decide) rfl ?_)
        | (refine c_skU hW rfl (by decide) rfl ?_)
        | (first | refine c_rdG hW (by decide) rfl (by decide) rfl (fun K hK => ?_) | refine c_rd hW (by decide) (fun K hK => ?_)
           simp only [Xa, Xb, Xc, Xd, Xe, Xf, Xg, Xh, Xi, Xj, Xk, Xl, Xm, Xn, Xo, Xp, Xq, Xr, Xs, Xt, Xu, Xv, Xw, Xx, Xy, Xz, XA, XB, XD, XE, XF, XG, XH, XI, ev, XJ, upd, args1, args2, args3, args4, XK, XL, XM, extL, XN, XO, XP, XQ, XR, XT, XU, XV, XW, XX, XY, XZ, X0, X1, X2, X3, Addr.add, ↓reduceIte, Nat.reduceLT, Nat.reduceEqDiff, Nat.zero_add, Nat.reduceAdd, Option.map_some, X4, List.getElem_toArray, List.getElem_cons_zero, List.getElem_cons_succ, x_nil, nilL_some, Option.isSome_some, x_f61_1, x_f61_2, x_f58_2, x_cv3_56, x_cv56_21, x_cv56_59, x_cv3_21, convL_int, bin_shl64, bin_shr64, bin_andB, e9, e8]
           refine hK _ ?_
           clear hK K))
      refine c_done hW ?_
      refine c_false hW rfl ?_
      refine c_skip hW ?_
      obtain rfl : v = 0 := by omega
      exact hB ⟨rfl, rfl⟩ _ h0 h4 h6 rfl

set_option maxHeartbeats 4000000 in
/-- The last one while main waits: load, store, release of the semaphore. -/
theorem add27 (ty : TypeId) (Wg : Nat) (c : Frame) (cs : List Frame) (f : Nat → Value) (h0 : f 0 = ptr Wg 0) (h4 : f 4 = .bool false) (h6 : f 6 = .int .u64 1) (h8 : f 8 = .int .u32 1)
    (hq : QuitE 0 (G (c.finish (.tuple #[])) cs)) : SlipE (AtD2 P ty Wg) 1 (G (Fr (base 24) 117 f [dcall 39 #[]] [.code rest27]) (c :: cs)) := by
  have hW := ctl_slip (AtD2 P ty Wg) 1
  have e1 : ((1 : Int) != 1) = false := by decide
  have a0 : Addr.add ⟨Wg, 0, none⟩ 0 = ⟨Wg, 0, none⟩ := add_none _ _ _
  have a1 : Addr.add ⟨Wg, 0, none⟩ 1 = ⟨Wg, 1, none⟩ := add_none _ _ _
  have h0' : f 0 = .pointer (some ⟨Wg, 0, none⟩) := h0
  refine c_seq hW ?_
  refine c_seq hW ?_
  refine c_region hW ?_
  repeat (first
    | (refine c_skG hW rfl (by decide) rfl ?_)
    | (refine c_skU hW rfl (by decide) rfl ?_)
    | (first | refine c_rdG hW (by decide) rfl (by decide) rfl (fun K hK => ?_) | refine c_rd hW (by decide) (fun K hK => ?_)
       simp only [Xa, Xb, Xc, Xd, Xe, Xf, Xg, Xh, Xi, Xj, Xk, Xl, Xm, Xn, Xo, Xp, Xq, Xr, Xs, Xt, Xu, Xv, Xw, Xx, Xy, Xz, XA, XB, XD, XE, XF, XG, XH, XI, ev, XJ, upd, args1, args2, args3, args4, XK, XL, XM, extL, XN, XO, XP, XQ, XR, XT, XU, XV, XW, XX, XY, XZ, X0, X1, X2, X3, Addr.add, ↓reduceIte, Nat.reduceLT, Nat.reduceEqDiff, Nat.zero_add, Nat.reduceAdd, Option.map_some, X4, List.getElem_toArray, List.getElem_cons_zero, List.getElem_cons_succ, x_nil, nilL_some, Option.isSome_some, x_f61_1, x_f61_2, x_f58_2, x_cv3_56, x_cv56_21, x_cv56_59, x_cv3_21, convL_int, bin_shl64, bin_shr64, bin_andB, h0']
       refine hK _ ?_
       clear hK K))
  refine c_call hW #[.pointer (some ⟨Wg, 0, none⟩)] (by decide) Try.func46 nm46 rfl (by simp only [List.map_toArray, List.map_cons, List.map_nil, Xa, Xb, Xc, Xd, Xe, Xf, Xg, Xh, Xi, Xj, Xk, Xl, Xm, Xn, Xo, Xp, Xq, Xr, Xs, Xt, Xu, Xv, Xw, Xx, Xy, Xz, XA, XB, XD, XE, XF, XG, XH, XI, ev, XJ, upd, args1, args2, args3, args4, XK, XL, XM, extL, XN, XO, XP, XQ, XR, XT, XU, XV, XW, XX, XY, XZ, X0, X1, X2, X3, Addr.add, ↓reduceIte, Nat.reduceLT, Nat.reduceEqDiff, Nat.zero_add, Nat.reduceAdd, Option.map_some, X4, List.getElem_toArray, List.getElem_cons_zero, List.getElem_cons_succ, x_nil, nilL_some, Option.isSome_some, x_f61_1, x_f61_2, x_f58_2, x_cv3_56, x_cv56_21, x_cv56_59, x_cv3_21, convL_int, bin_shl64, bin_shr64, bin_andB]) ?_
  intro c1 hgo
  rw [enter1 _ Try.func46 rfl Try.ntmps46 (by decide)]
  refine c_seq hW ?_
  refine c_region hW ?_
  repeat (first
    | (refine c_skG hW rfl (by decide) rfl ?_)
    | (refine c_skU hW rfl (by decide) rfl ?_)
    | (first | refine c_rdG hW (by decide) rfl (by decide) rfl (fun K hK => ?_) | refine c_rd hW (by decide) (fun K hK => ?_)
       simp only [Xa, Xb, Xc, Xd, Xe, Xf, Xg, Xh, Xi, Xj, Xk, Xl, Xm, Xn, Xo, Xp, Xq, Xr, Xs, Xt, Xu, Xv, Xw, Xx, Xy, Xz, XA, XB, XD, XE, XF, XG, XH, XI, ev, XJ, upd, args1, args2, args3, args4, XK, XL, XM, extL, XN, XO, XP, XQ, XR, XT, XU, XV, XW, XX, XY, XZ, X0, X1, X2, X3, Addr.add, ↓reduceIte, Nat.reduceLT, Nat.reduceEqDiff, Nat.zero_add, Nat.reduceAdd, Option.map_some, X4, List.getElem_toArray, List.getElem_cons_zero, List.getElem_cons_succ, x_nil, nilL_some, Option.isSome_some, x_f61_1, x_f61_2, x_f58_2, x_cv3_56, x_cv56_21, x_cv56_59, x_cv3_21, convL_int, bin_shl64, bin_shr64, bin_andB]
       refine hK _ ?_
       clear hK K))
  refine c_done hW ?_
  refine c_seq hW ?_
  refine c_region hW ?_
  repeat (first
    | (refine c_skG hW rfl (by decide) rfl ?_)
    | (refine c_skU hW rfl (by decide) rfl ?_)
    | (first | refine c_rdG hW (by decide) rfl (by decide) rfl (fun K hK => ?_) | refine c_rd hW (by decide) (fun K hK => ?_)
       simp only [Xa, Xb, Xc, Xd, Xe, Xf, Xg, Xh, Xi, Xj, Xk, Xl, Xm, Xn, Xo, Xp, Xq, Xr, Xs, Xt, Xu, Xv, Xw, Xx, Xy, Xz, XA, XB, XD, XE, XF, XG, XH, XI, ev, XJ, upd, args1, args2, args3, args4, XK, XL, XM, extL, XN, XO, XP, XQ, XR, XT, XU, XV, XW, XX, XY, XZ, X0, X1, X2, X3, Addr.add, ↓reduceIte, Nat.reduceLT, Nat.reduceEqDiff, Nat.zero_add, Nat.reduceAdd, Option.map_some, X4, List.getElem_toArray, List.getElem_cons_zero, List.getElem_cons_succ, x_nil, nilL_some, Option.isSome_some, x_f61_1, x_f61_2, x_f58_2, x_cv3_56, x_cv56_21, x_cv56_59, x_cv3_21, convL_int, bin_shl64, bin_shr64, bin_andB]
       refine hK _ ?_
       clear hK K))
  refine c_here fun rest ho hgo1 => SlipE.stop ⟨rfl, rfl, fun w hw => ⟨_, st_load ho (by decide) Try.func58 nm58 rfl nx58 ex58 (ad := stA Wg) (by simp only [Xa, Xb, Xc, Xd, Xe, Xf, Xg, Xh, Xi, Xj, Xk, Xl, Xm, Xn, Xo, Xp, Xq, Xr, Xs, Xt, Xu, Xv, Xw, Xx, Xy, Xz, XA, XB, XD, XE, XF, XG, XH, XI, ev, XJ, upd, args1, args2, args3, args4, XK, XL, XM, extL, XN, XO, XP, XQ, XR, XT, XU, XV, XW, XX, XY, XZ, X0, X1, X2, X3, Addr.add, ↓reduceIte, Nat.reduceLT, Nat.reduceEqDiff, Nat.zero_add, Nat.reduceAdd, Option.map_some, X4, List.getElem_toArray, List.getElem_cons_zero, List.getElem_cons_succ, x_nil, nilL_some, Option.isSome_some, x_f61_1, x_f61_2, x_f58_2, x_cv3_56, x_cv56_21, x_cv56_59, x_cv3_21, convL_int, bin_shl64, bin_shr64, bin_andB, a0]; rfl) hw.cellSt, ?_⟩⟩
  -- behind the load
  refine hgo1 (SlipE (AtD3 P ty Wg) 1) _ _ ?_
  clear hgo1 hW
  have hW := ctl_slip (AtD3 P ty Wg) 1
  repeat (first
    | (refine c_skG hW rfl (by decide) rfl ?_)
    | (refine c_skU hW rfl (by decide) rfl ?_)
    | (first | refine c_rdG hW (by decide) rfl (by decide) rfl (fun K hK => ?_) | refine c_rd hW (by decide) (fun K hK => ?_)
       simp only [Xa, Xb, Xc, Xd, Xe, Xf, Xg, Xh, Xi, Xj, Xk, Xl, Xm, Xn, Xo, Xp, Xq, Xr, Xs, Xt, Xu, Xv, Xw, Xx, Xy, Xz, XA, XB, XD, XE, XF, XG, XH, XI, ev, XJ, upd, args1, args2, args3, args4, XK, XL, XM, extL, XN, XO, XP, XQ, XR, XT, XU, XV, XW, XX, XY, XZ, X0, X1, X2, X3, Addr.add, ↓reduceIte, Nat.reduceLT, Nat.reduceEqDiff, Nat.zero_add, Nat.reduceAdd, Option.map_some, X4, List.getElem_toArray, List.getElem_cons_zero, List.getElem_cons_succ, x_nil, nilL_some, Option.isSome_some, x_f61_1, x_f61_2, x_f58_2, x_cv3_56, x_cv56_21, x_cv56_59, x_cv3_21, convL_int, bin_shl64, bin_shr64, bin_andB]
       refine hK _ ?_
       clear hK K))
  refine c_done hW ?_
  refine c_ret hW ?_
  refine c_leave1 hW rfl Try.func46 Try.results46 ?_
  refine hgo _ _ ?_
  clear hgo
  repeat (first
    | (refine c_skG hW rfl (by decide) rfl ?_)
    | (refine c_skU hW rfl (by decide) rfl ?_)
    | (first | refine c_rdG hW (by decide) rfl (by decide) rfl (fun K hK => ?_) | refine c_rd hW (by decide) (fun K hK => ?_)
       simp only [Xa, Xb, Xc, Xd, Xe, Xf, Xg, Xh, Xi, Xj, Xk, Xl, Xm, Xn, Xo, Xp, Xq, Xr, Xs, Xt, Xu, Xv, Xw, Xx, Xy, Xz, XA, XB, XD, XE, XF, XG, XH, XI, ev, XJ, upd, args1, args2, args3, args4, XK, XL, XM, extL, XN, XO, XP, XQ, XR, XT, XU, XV, XW, XX, XY, XZ, X0, X1, X2, X3, Addr.add, ↓reduceIte, Nat.reduceLT, Nat.reduceEqDiff, Nat.zero_add, Nat.reduceAdd, Option.map_some, X4, List.getElem_toArray, List.getElem_cons_zero, List.getElem_cons_succ, x_nil, nilL_some, Option.isSome_some, x_f61_1, x_f61_2, x_f58_2, x_cv3_56, x_cv56_21, x_cv56_59, x_cv3_21, convL_int, bin_shl64, bin_shr64, bin_andB, h6, e1]
       refine hK _ ?_
       clear hK K))
  refine c_done hW ?_
  refine c_false hW rfl ?_
  refine c_skip hW ?_
  refine c_seq hW ?_
  refine c_region hW ?_
  repeat (first
    | (refine c_skG hW rfl (by decide) rfl ?_)
    | (refine c_skU hW rfl (by decide) rfl ?_)
    | (first | refine c_rdG hW (by decide) rfl (by decide) rfl (fun K hK => ?_) | refine c_rd hW (by decide) (fun K hK => ?_)
       simp only [Xa, Xb, Xc, Xd, Xe, Xf, Xg, Xh, Xi, Xj, Xk, Xl, Xm, Xn, Xo, Xp, Xq, Xr, Xs, Xt, Xu, Xv, Xw, Xx, Xy, Xz, XA, XB, XD, XE, XF, XG, XH, XI, ev, XJ, upd, args1, args2, args3, args4, XK, XL, XM, extL, XN, XO, XP, XQ, XR, XT, XU, XV, XW, XX, XY, XZ, X0, X1, X2, X3, Addr.add, ↓reduceIte, Nat.reduceLT, Nat.reduceEqDiff, Nat.zero_add, Nat.reduceAdd, Option.map_some, X4, List.getElem_toArray, List.getElem_cons_zero, List.getElem_cons_succ, x_nil, nilL_some, Option.isSome_some, x_f61_1, x_f61_2, x_f58_2, x_cv3_56, x_cv56_21, x_cv56_59, x_cv3_21, convL_int, bin_shl64, bin_shr64, bin_andB, h0']
       refine hK _ ?_
       clear hK K))
  refine c_call hW #[.pointer (some ⟨Wg, 0, none⟩), .int .u64 0] (by decide) Try.func47 nm47 rfl (by simp only [List.map_toArray, List.map_cons, List.map_nil, Xa, Xb, Xc, Xd, Xe, Xf, Xg, Xh, Xi, Xj, Xk, Xl, Xm, Xn, Xo, Xp, Xq, Xr, Xs, Xt, Xu, Xv, Xw, Xx, Xy, Xz, XA, XB, XD, XE, XF, XG, XH, XI, ev, XJ, upd, args1, args2, args3, args4, XK, XL, XM, extL, XN, XO, XP, XQ, XR, XT, XU, XV, XW, XX, XY, XZ, X0, X1, X2, X3, Addr.add, ↓reduceIte, Nat.reduceLT, Nat.reduceEqDiff, Nat.zero_add, Nat.reduceAdd, Option.map_some, X4, List.getElem_toArray, List.getElem_cons_zero, List.getElem_cons_succ, x_nil, nilL_some, Option.isSome_some, x_f61_1, x_f61_2, x_f58_2, x_cv3_56, x_cv56_21, x_cv56_59, x_cv3_21, convL_int, bin_shl64, bin_shr64, bin_andB]) ?_
  intro c1 hgo
  rw [enter2 _ _ Try.func47 rfl Try.ntmps47 (by decide)]
  refine c_region hW ?_
  repeat (first
    | (refine c_skG hW rfl (by decide) rfl ?_)
    | (refine c_skU hW rfl (by decide) rfl ?_)
    | (first | refine c_rdG hW (by decide) rfl (by decide) rfl (fun K hK => ?_) | refine c_rd hW (by decide) (fun K hK => ?_)
       simp only [Xa, Xb, Xc, Xd, Xe, Xf, Xg, Xh, Xi, Xj, Xk, Xl, Xm, Xn, Xo, Xp, Xq, Xr, Xs, Xt, Xu, Xv, Xw, Xx, Xy, Xz, XA, XB, XD, XE, XF, XG, XH, XI, ev, XJ, upd, args1, args2, args3, args4, XK, XL, XM, extL, XN, XO, XP, XQ, XR, XT, XU, XV, XW, XX, XY, XZ, X0, X1, X2, X3, Addr.add, ↓reduceIte, Nat.reduceLT, Nat.reduceEqDiff, Nat.zero_add, Nat.reduceAdd, Option.map_some, X4, List.getElem_toArray, List.getElem_cons_zero, List.getElem_cons_succ, x_nil, nilL_some, Option.isSome_some, x_f61_1, x_f61_2, x_f58_2, x_cv3_56, x_cv56_21, x_cv56_59, x_cv3_21, convL_int, bin_shl64, bin_shr64, bin_andB]
       refine hK _ ?_
       clear hK K))
  refine c_here fun rest ho hgo1 => SlipE.stop ⟨rfl, rfl, fun w hw => ⟨_, st_store ho (by decide) Try.func59 nm59 rfl nx59 ex59 (ad := stA Wg) (v := 0) (by simp only [Xa, Xb, Xc, Xd, Xe, Xf, Xg, Xh, Xi, Xj, Xk, Xl, Xm, Xn, Xo, Xp, Xq, Xr, Xs, Xt, Xu, Xv, Xw, Xx, Xy, Xz, XA, XB, XD, XE, XF, XG, XH, XI, ev, XJ, upd, args1, args2, args3, args4, XK, XL, XM, extL, XN, XO, XP, XQ, XR, XT, XU, XV, XW, XX, XY, XZ, X0, X1, X2, X3, Addr.add, ↓reduceIte, Nat.reduceLT, Nat.reduceEqDiff, Nat.zero_add, Nat.reduceAdd, Option.map_some, X4, List.getElem_toArray, List.getElem_cons_zero, List.getElem_cons_succ, x_nil, nilL_some, Option.isSome_some, x_f61_1, x_f61_2, x_f58_2, x_cv3_56, x_cv56_21, x_cv56_59, x_cv3_21, convL_int, bin_shl64, bin_shr64, bin_andB, a0]; rfl) (by simp only [Xa, Xb, Xc, Xd, Xe, Xf, Xg, Xh, Xi, Xj, Xk, Xl, Xm, Xn, Xo, Xp, Xq, Xr, Xs, Xt, Xu, Xv, Xw, Xx, Xy, Xz, XA, XB, XD, XE, XF, XG, XH, XI, ev, XJ, upd, args1, args2, args3, args4, XK, XL, XM, extL, XN, XO, XP, XQ, XR, XT, XU, XV, XW, XX, XY, XZ, X0, X1, X2, X3, Addr.add, ↓reduceIte, Nat.reduceLT, Nat.reduceEqDiff, Nat.zero_add, Nat.reduceAdd, Option.map_some, X4, List.getElem_toArray, List.getElem_cons_zero, List.getElem_cons_succ, x_nil, nilL_some, Option.isSome_some, x_f61_1, x_f61_2, x_f58_2, x_cv3_56, x_cv56_21, x_cv56_59, x_cv3_21, convL_int, bin_shl64, bin_shr64, bin_andB]) hw.cellSt (hw.thaw 0), ?_⟩⟩
  refine hgo1 (SlipE (AtD4 P ty Wg) 1) _ _ ?_
  clear hgo1 hW
  have hW := ctl_slip (AtD4 P ty Wg) 1
  refine c_done hW ?_
  refine c_end hW ?_
  refine c_leave0 hW rfl Try.func47 Try.results47 ?_
  refine hgo _ _ ?_
  clear hgo
  refine c_done hW ?_
  refine c_seq hW ?_
  refine c_seq hW ?_
  refine c_region hW ?_
  repeat (first
    | (refine c_skG hW rfl (by decide) rfl ?_)
    | (refine c_skU hW rfl (by decide) rfl ?_)
    | (first | refine c_rdG hW (by decide) rfl (by decide) rfl (fun K hK => ?_) | refine c_rd hW (by decide) (fun K hK => ?_)
       simp only [Xa, Xb, Xc, Xd, Xe, Xf, Xg, Xh, Xi, Xj, Xk, Xl, Xm, Xn, Xo, Xp, Xq, Xr, Xs, Xt, Xu, Xv, Xw, Xx, Xy, Xz, XA, XB, XD, XE, XF, XG, XH, XI, ev, XJ, upd, args1, args2, args3, args4, XK, XL, XM, extL, XN, XO, XP, XQ, XR, XT, XU, XV, XW, XX, XY, XZ, X0, X1, X2, X3, Addr.add, ↓reduceIte, Nat.reduceLT, Nat.reduceEqDiff, Nat.zero_add, Nat.reduceAdd, Option.map_some, X4, List.getElem_toArray, List.getElem_cons_zero, List.getElem_cons_succ, x_nil, nilL_some, Option.isSome_some, x_f61_1, x_f61_2, x_f58_2, x_cv3_56, x_cv56_21, x_cv56_59, x_cv3_21, convL_int, bin_shl64, bin_shr64, bin_andB, h4]
       refine hK _ ?_
       clear hK K))
  refine c_done hW ?_
  refine c_false hW rfl ?_
  refine c_skip hW ?_
  refine c_block hW ?_
  refine c_loop hW ?_
  refine c_seq hW ?_
  refine c_seq hW ?_
  refine c_region hW ?_
  have e2 : ((1 : Int) != 0) = true := by decide
  repeat (first
    | (refine c_skG hW rfl (by decide) rfl ?_)
    | (refine c_skU hW rfl (by decide) rfl ?_)
    | (first | refine c_rdG hW (by decide) rfl (by decide) rfl (fun K hK => ?_) | refine c_rd hW (by decide) (fun K hK => ?_)
       simp only [Xa, Xb, Xc, Xd, Xe, Xf, Xg, Xh, Xi, Xj, Xk, Xl, Xm, Xn, Xo, Xp, Xq, Xr, Xs, Xt, Xu, Xv, Xw, Xx, Xy, Xz, XA, XB, XD, XE, XF, XG, XH, XI, ev, XJ, upd, args1, args2, args3, args4, XK, XL, XM, extL, XN, XO, XP, XQ, XR, XT, XU, XV, XW, XX, XY, XZ, X0, X1, X2, X3, Addr.add, ↓reduceIte, Nat.reduceLT, Nat.reduceEqDiff, Nat.zero_add, Nat.reduceAdd, Option.map_some, X4, List.getElem_toArray, List.getElem_cons_zero, List.getElem_cons_succ, x_nil, nilL_some, Option.isSome_some, x_f61_1, x_f61_2, x_f58_2, x_cv3_56, x_cv56_21, x_cv56_59, x_cv3_21, convL_int, bin_shl64, bin_shr64, bin_andB, h8, e2]
       refine hK _ ?_
       clear hK K))
  refine c_done hW ?_
  refine c_true hW rfl ?_
  refine c_skip hW ?_
  refine c_seq hW ?_
  refine c_block hW ?_
  refine c_region hW ?_
  repeat (first
    | (refine c_skG hW rfl (by decide) rfl ?_)
    | (refine c_skU hW rfl (by decide) rfl ?_)
    | (first | refine c_rdG hW (by decide) rfl (by decide) rfl (fun K hK => ?_) | refine c_rd hW (by decide) (fun K hK => ?_)
       simp only [Xa, Xb, Xc, Xd, Xe, Xf, Xg, Xh, Xi, Xj, Xk, Xl, Xm, Xn, Xo, Xp, Xq, Xr, Xs, Xt, Xu, Xv, Xw, Xx, Xy, Xz, XA, XB, XD, XE, XF, XG, XH, XI, ev, XJ, upd, args1, args2, args3, args4, XK, XL, XM, extL, XN, XO, XP, XQ, XR, XT, XU, XV, XW, XX, XY, XZ, X0, X1, X2, X3, Addr.add, ↓reduceIte, Nat.reduceLT, Nat.reduceEqDiff, Nat.zero_add, Nat.reduceAdd, Option.map_some, X4, List.getElem_toArray, List.getElem_cons_zero, List.getElem_cons_succ, x_nil, nilL_some, Option.isSome_some, x_f61_1, x_f61_2, x_f58_2, x_cv3_56, x_cv56_21, x_cv56_59, x_cv3_21, convL_int, bin_shl64, bin_shr64, bin_andB, h0']
       refine hK _ ?_
       clear hK K))
  refine c_here fun rest ho hgo1 => SlipE.stop ⟨rfl, rfl, mayWake_entry ho rfl Try.func49 rfl, fun w hw => ⟨_, st_semrelease ho (by decide) Try.func49 nm49 rfl nx49 ex49 (ad := smA Wg) (r := 1) (by simp only [Xa, Xb, Xc, Xd, Xe, Xf, Xg, Xh, Xi, Xj, Xk, Xl, Xm, Xn, Xo, Xp, Xq, Xr, Xs, Xt, Xu, Xv, Xw, Xx, Xy, Xz, XA, XB, XD, XE, XF, XG, XH, XI, ev, XJ, upd, args1, args2, args3, args4, XK, XL, XM, extL, XN, XO, XP, XQ, XR, XT, XU, XV, XW, XX, XY, XZ, X0, X1, X2, X3, Addr.add, ↓reduceIte, Nat.reduceLT, Nat.reduceEqDiff, Nat.zero_add, Nat.reduceAdd, Option.map_some, X4, List.getElem_toArray, List.getElem_cons_zero, List.getElem_cons_succ, x_nil, nilL_some, Option.isSome_some, x_f61_1, x_f61_2, x_f58_2, x_cv3_56, x_cv56_21, x_cv56_59, x_cv3_21, convL_int, bin_shl64, bin_shr64, bin_andB, a1]; rfl) hw.cellSm (hw.thaw 1) (by decide), ?_⟩⟩
  refine hgo1 (QuitE 1) _ _ ?_
  clear hgo1 hW
  have hW := ctl_quit 1
  have e3 : IntKind.u32.wrap (1 - 1) = 0 := by decide
  refine c_done hW ?_
  refine c_inBlock hW ?_
  refine c_region hW ?_
  repeat (first
    | (refine c_skG hW rfl (by decide) rfl ?_)
    | (refine c_skU hW rfl (by decide) rfl ?_)
    | (first | refine c_rdG hW (by decide) rfl (by decide) rfl (fun K hK => ?_) | refine c_rd hW (by decide) (fun K hK => ?_)
       simp only [Xa, Xb, Xc, Xd, Xe, Xf, Xg, Xh, Xi, Xj, Xk, Xl, Xm, Xn, Xo, Xp, Xq, Xr, Xs, Xt, Xu, Xv, Xw, Xx, Xy, Xz, XA, XB, XD, XE, XF, XG, XH, XI, ev, XJ, upd, args1, args2, args3, args4, XK, XL, XM, extL, XN, XO, XP, XQ, XR, XT, XU, XV, XW, XX, XY, XZ, X0, X1, X2, X3, Addr.add, ↓reduceIte, Nat.reduceLT, Nat.reduceEqDiff, Nat.zero_add, Nat.reduceAdd, Option.map_some, X4, List.getElem_toArray, List.getElem_cons_zero, List.getElem_cons_succ, x_nil, nilL_some, Option.isSome_some, x_f61_1, x_f61_2, x_f58_2, x_cv3_56, x_cv56_21, x_cv56_59, x_cv3_21, convL_int, bin_shl64, bin_shr64, bin_andB, h8, e3]
       refine hK _ ?_
       clear hK K))
  refine c_done hW ?_
  refine c_inLoop hW ?_
  refine c_seq hW ?_
  refine c_seq hW ?_
  refine c_region hW ?_
  repeat (first
    | (refine c_skG hW rfl (by decide) rfl ?_)
    | (refine c_skU hW rfl (by decide) rfl ?_)
    | (first | refine c_rdG hW (by decide) rfl (by decide) rfl (fun K hK => ?_) | refine c_rd hW (by decide) (fun K hK => ?_)
       simp only [Xa, Xb, Xc, Xd, Xe, Xf, Xg, Xh, Xi, Xj, Xk, Xl, Xm, Xn, Xo, Xp, Xq, Xr, Xs, Xt, Xu, Xv, Xw, Xx, Xy, Xz, XA, XB, XD, XE, XF, XG, XH, XI, ev, XJ, upd, args1, args2, args3, args4, XK, XL, XM, extL, XN, XO, XP, XQ, XR, XT, XU, XV, XW, XX, XY, XZ, X0, X1, X2, X3, Addr.add, ↓reduceIte, Nat.reduceLT, Nat.reduceEqDiff, Nat.zero_add, Nat.reduceAdd, Option.map_some, X4, List.getElem_toArray, List.getElem_cons_zero, List.getElem_cons_succ, x_nil, nilL_some, Option.isSome_some, x_f61_1, x_f61_2, x_f58_2, x_cv3_56, x_cv56_21, x_cv56_59, x_cv3_21, convL_int, bin_shl64, bin_shr64, bin_andB, bne00]
       refine hK _ ?_
       clear hK K))
  refine c_done hW ?_
  refine c_false hW rfl ?_
  refine c_exit hW rfl ?_
  refine c_end hW ?_
  refine q_unwind_mark .enable (.inr rfl) Try.func39 nm39 rfl nx39 ex39 ?_
  exact c_leave0 (ctl_quit 0) rfl Try.func24 Try.results24 hq

theorem enterD1 {fn n : Nat} {F : Func} {c : Code} (a : Value) (hf : P.funcs[fn]? = some F) (hb : F.body = some c) (hn : F.ntmps = n) (h : 1 ≤ n) :
    Frame.enter P fn #[a] .deferred = Fr (baseD fn) n (args1 a) [] [.code c] := by
  subst hn; rw [enter_atD #[a] hf hb, mkT_enter #[a] _ h, getD1]; rfl
theorem e64m1 : IntKind.u64.wrap (IntKind.u64.wrap (-1) * 4294967296) = 18446744069414584320 := by decide
theorem st_sub (v wt : Nat) (hv : v < 2147483647) (hwt : wt ≤ 1) : IntKind.u64.wrap (((v + 1 : Nat) : Int) * KK + wt + 18446744069414584320) = stN v wt := by
  rw [IntKind.wrap_u64]; unfold stN KK; omega

set_option maxHeartbeats 4000000 in
/-- DONE, as a deferred call of a sender's. -/
theorem done_M {x : Th} (hx : (x.id == 0) = false) (ty : TypeId) (Wg : Nat) (O : Gh) (w : World) (hsy : O.tag Wg = .sync) (hsh : w.shape? Wg = some (ty, 2)) (hd : O.deaf = 0) (c : Frame) (cs : List Frame) (hcm : c.mode = .returning) (hq : QuitE 0 (G c cs)) :
    Tree P x (AtR0 P ty Wg) O (G (Frame.enter P 26 #[ptr Wg 0] .deferred) (c :: cs)) w := by
  have a0 : Addr.add ⟨Wg, 0, none⟩ 0 = ⟨Wg, 0, none⟩ := add_none _ _ _
  unfold ptr
  rw [enterD1 _ Try.func26 rfl Try.ntmps26 (by decide)]
  refine t_region ?_
  repeat (first
    | (refine t_skG rfl (by decide) rfl ?_)
    | (refine t_skU rfl (by decide) rfl ?_)
    | (first | refine t_rdG (by decide) rfl (by decide) rfl (fun K hK => ?_) | refine t_rd (by decide) (fun K hK => ?_)
       simp only [Xa, Xb, Xc, Xd, Xe, Xf, Xg, Xh, Xi, Xj, Xk, Xl, Xm, Xn, Xo, Xp, Xq, Xr, Xs, Xt, Xu, Xv, Xw, Xx, Xy, Xz, XA, XB, XD, XE, XF, XG, XH, XI, ev, XJ, upd, args1, args2, args3, args4, XK, XL, XM, extL, XN, XO, XP, XQ, XR, XT, XU, XV, XW, XX, XY, XZ, X0, X1, X2, X3, Addr.add, ↓reduceIte, Nat.reduceLT, Nat.reduceEqDiff, Nat.zero_add, Nat.reduceAdd, Option.map_some, X4, List.getElem_toArray, List.getElem_cons_zero, List.getElem_cons_succ]
       refine hK _ ?_
       clear hK K))
  refine c_call (ctl_tree x (AtR0 P ty Wg) O w) #[.pointer (some ⟨Wg, 0, none⟩), .int .i64 (-1)] (by decide) Try.func24 nm24 rfl (by simp only [List.map_toArray, List.map_cons, List.map_nil, Xa, Xb, Xc, Xd, Xe, Xf, Xg, Xh, Xi, Xj, Xk, Xl, Xm, Xn, Xo, Xp, Xq, Xr, Xs, Xt, Xu, Xv, Xw, Xx, Xy, Xz, XA, XB, XD, XE, XF, XG, XH, XI, ev, XJ, upd, args1, args2, args3, args4, XK, XL, XM, extL, XN, XO, XP, XQ, XR, XT, XU, XV, XW, XX, XY, XZ, X0, X1, X2, X3, Addr.add, ↓reduceIte, Nat.reduceLT, Nat.reduceEqDiff, Nat.zero_add, Nat.reduceAdd, Option.map_some, X4, List.getElem_toArray, List.getElem_cons_zero, List.getElem_cons_succ]) ?_
  intro c1 hgo
  have hq1 : QuitE 0 (G (c1.finish (.tuple #[])) (c :: cs)) := by
    refine hgo _ _ ?_
    refine c_done (ctl_quit 0) ?_
    refine c_end (ctl_quit 0) ?_
    exact c_leaveD (ctl_quit 0) rfl Try.func26 Try.results26 hcm hq
  clear hgo
  rw [enter2 _ _ Try.func24 rfl Try.ntmps24 (by decide)]
  refine t_seq ?_
  refine t_true rfl ?_
  refine t_seq ?_
  refine t_seq ?_
  have h1 : decide ((-1 : Int) < 0) = true := by decide
  refine t_region ?_
  repeat (first
    | (refine t_skG rfl (by decide) rfl ?_)
    | (refine t_skU rfl (by decide) rfl ?_)
    | (first | refine t_rdG (by decide) rfl (by decide) rfl (fun K hK => ?_) | refine t_rd (by decide) (fun K hK => ?_)
       simp only [Xa, Xb, Xc, Xd, Xe, Xf, Xg, Xh, Xi, Xj, Xk, Xl, Xm, Xn, Xo, Xp, Xq, Xr, Xs, Xt, Xu, Xv, Xw, Xx, Xy, Xz, XA, XB, XD, XE, XF, XG, XH, XI, ev, XJ, upd, args1, args2, args3, args4, XK, XL, XM, extL, XN, XO, XP, XQ, XR, XT, XU, XV, XW, XX, XY, XZ, X0, X1, X2, X3, Addr.add, ↓reduceIte, Nat.reduceLT, Nat.reduceEqDiff, Nat.zero_add, Nat.reduceAdd, Option.map_some, X4, List.getElem_toArray, List.getElem_cons_zero, List.getElem_cons_succ, h1]
       refine hK _ ?_
       clear hK K))
  refine t_done ?_
  refine t_true rfl ?_
  refine t_region ?_
  iterate 1 (first
    | (refine t_skG rfl (by decide) rfl ?_)
    | (refine t_skU rfl (by decide) rfl ?_)
    | (first | refine t_rdG (by decide) rfl (by decide) rfl (fun K hK => ?_) | refine t_rd (by decide) (fun K hK => ?_)
       simp only [Xa, Xb, Xc, Xd, Xe, Xf, Xg, Xh, Xi, Xj, Xk, Xl, Xm, Xn, Xo, Xp, Xq, Xr, Xs, Xt, Xu, Xv, Xw, Xx, Xy, Xz, XA, XB, XD, XE, XF, XG, XH, XI, ev, XJ, upd, args1, args2, args3, args4, XK, XL, XM, extL, XN, XO, XP, XQ, XR, XT, XU, XV, XW, XX, XY, XZ, X0, X1, X2, X3, Addr.add, ↓reduceIte, Nat.reduceLT, Nat.reduceEqDiff, Nat.zero_add, Nat.reduceAdd, Option.map_some, X4, List.getElem_toArray, List.getElem_cons_zero, List.getElem_cons_succ]
       refine hK _ ?_
       clear hK K))
  refine t_conv (ts := 61) (ad := ⟨Wg, 0, none⟩) (el := ty) (nn := 2) (by decide) rfl rfl rfl rfl rfl hsy hsh (Nat.zero_lt_succ 1) ?_
  refine t_here fun rest ho hgo => Tree.stop fun O1 w1 r => ⟨rfl, r.deaf.trans hd, _, fun w => st_markAt .releaseMerge (by simp) ho (by decide) Try.func37 nm37 rfl nx37 ex37 (ad := stA Wg) rfl, ?_⟩
  refine hgo (SlipE (AtD1 P ty Wg) 0) _ _ ?_
  clear hgo
  have hW := ctl_slip (AtD1 P ty Wg) 0
  refine c_done hW ?_
  refine c_seq hW ?_
  refine c_region hW ?_
  refine s_mark0 .disable (.inl rfl) (by decide) Try.func38 nm38 rfl nx38 ex38 ?_
  clear hW
  have hW := ctl_slip (AtD1 P ty Wg) 1
  show InC (SlipE (AtD1 P ty Wg) 1) _ _ _ _ _ _ _ _ _
  refine c_done hW ?_
  refine c_region hW ?_
  refine c_defer hW (vals := #[]) (by decide) (by simp) ?_
  refine c_done hW ?_
  refine c_seq hW ?_
  refine c_region hW ?_
  repeat (first
    | (refine c_skG hW rfl (by decide) rfl ?_)
    | (refine c_skU hW rfl (by decide) rfl ?_)
    | (first | refine c_rdG hW (by decide) rfl (by decide) rfl (fun K hK => ?_) | refine c_rd hW (by decide) (fun K hK => ?_)
       simp only [Xa, Xb, Xc, Xd, Xe, Xf, Xg, Xh, Xi, Xj, Xk, Xl, Xm, Xn, Xo, Xp, Xq, Xr, Xs, Xt, Xu, Xv, Xw, Xx, Xy, Xz, XA, XB, XD, XE, XF, XG, XH, XI, ev, XJ, upd, args1, args2, args3, args4, XK, XL, XM, extL, XN, XO, XP, XQ, XR, XT, XU, XV, XW, XX, XY, XZ, X0, X1, X2, X3, Addr.add, ↓reduceIte, Nat.reduceLT, Nat.reduceEqDiff, Nat.zero_add, Nat.reduceAdd, Option.map_some, X4, List.getElem_toArray, List.getElem_cons_zero, List.getElem_cons_succ, x_nil, nilL_some, Option.isSome_some, x_f61_1, x_f61_2, x_f58_2, x_cv3_56, x_cv56_21, x_cv56_59, x_cv3_21, convL_int, bin_shl64, bin_shr64, bin_andB]
       refine hK _ ?_
       clear hK K))
  refine c_done hW ?_
  refine c_seq hW ?_
  refine c_seq hW ?_
  refine c_region hW ?_
  refine c_entryPure hW (.bool false) (by decide) Try.func40 nm40 rfl nx40 ex40 ?_
  refine c_done hW ?_
  refine c_false hW rfl ?_
  refine c_skip hW ?_
  refine c_seq hW ?_
  refine c_region hW ?_
  repeat (first
    | (refine c_skG hW rfl (by decide) rfl ?_)
    | (refine c_skU hW rfl (by decide) rfl ?_)
    | (first | refine c_rdG hW (by decide) rfl (by decide) rfl (fun K hK => ?_) | refine c_rd hW (by decide) (fun K hK => ?_)
       simp only [Xa, Xb, Xc, Xd, Xe, Xf, Xg, Xh, Xi, Xj, Xk, Xl, Xm, Xn, Xo, Xp, Xq, Xr, Xs, Xt, Xu, Xv, Xw, Xx, Xy, Xz, XA, XB, XD, XE, XF, XG, XH, XI, ev, XJ, upd, args1, args2, args3, args4, XK, XL, XM, extL, XN, XO, XP, XQ, XR, XT, XU, XV, XW, XX, XY, XZ, X0, X1, X2, X3, Addr.add, ↓reduceIte, Nat.reduceLT, Nat.reduceEqDiff, Nat.zero_add, Nat.reduceAdd, Option.map_some, X4, List.getElem_toArray, List.getElem_cons_zero, List.getElem_cons_succ, x_nil, nilL_some, Option.isSome_some, x_f61_1, x_f61_2, x_f58_2, x_cv3_56, x_cv56_21, x_cv56_59, x_cv3_21, convL_int, bin_shl64, bin_shr64, bin_andB, e64m1]
       refine hK _ ?_
       clear hK K))
  refine c_call hW #[.pointer (some ⟨Wg, 0, none⟩), .int .u64 18446744069414584320] (by decide) Try.func44 nm44 rfl (by simp only [List.map_toArray, List.map_cons, List.map_nil, Xa, Xb, Xc, Xd, Xe, Xf, Xg, Xh, Xi, Xj, Xk, Xl, Xm, Xn, Xo, Xp, Xq, Xr, Xs, Xt, Xu, Xv, Xw, Xx, Xy, Xz, XA, XB, XD, XE, XF, XG, XH, XI, ev, XJ, upd, args1, args2, args3, args4, XK, XL, XM, extL, XN, XO, XP, XQ, XR, XT, XU, XV, XW, XX, XY, XZ, X0, X1, X2, X3, Addr.add, ↓reduceIte, Nat.reduceLT, Nat.reduceEqDiff, Nat.zero_add, Nat.reduceAdd, Option.map_some, X4, List.getElem_toArray, List.getElem_cons_zero, List.getElem_cons_succ, x_nil, nilL_some, Option.isSome_some, x_f61_1, x_f61_2, x_f58_2, x_cv3_56, x_cv56_21, x_cv56_59, x_cv3_21, convL_int, bin_shl64, bin_shr64, bin_andB, a0]) ?_
  intro c2 hgo
  rw [enter2 _ _ Try.func44 rfl Try.ntmps44 (by decide)]
  refine c_seq hW ?_
  refine c_region hW ?_
  repeat (first
    | (refine c_skG hW rfl (by decide) rfl ?_)
    | (refine c_skU hW rfl (by decide) rfl ?_)
    | (first | refine c_rdG hW (by decide) rfl (by decide) rfl (fun K hK => ?_) | refine c_rd hW (by decide) (fun K hK => ?_)
       simp only [Xa, Xb, Xc, Xd, Xe, Xf, Xg, Xh, Xi, Xj, Xk, Xl, Xm, Xn, Xo, Xp, Xq, Xr, Xs, Xt, Xu, Xv, Xw, Xx, Xy, Xz, XA, XB, XD, XE, XF, XG, XH, XI, ev, XJ, upd, args1, args2, args3, args4, XK, XL, XM, extL, XN, XO, XP, XQ, XR, XT, XU, XV, XW, XX, XY, XZ, X0, X1, X2, X3, Addr.add, ↓reduceIte, Nat.reduceLT, Nat.reduceEqDiff, Nat.zero_add, Nat.reduceAdd, Option.map_some, X4, List.getElem_toArray, List.getElem_cons_zero, List.getElem_cons_succ, x_nil, nilL_some, Option.isSome_some, x_f61_1, x_f61_2, x_f58_2, x_cv3_56, x_cv56_21, x_cv56_59, x_cv3_21, convL_int, bin_shl64, bin_shr64, bin_andB]
       refine hK _ ?_
       clear hK K))
  refine c_done hW ?_
  refine c_seq hW ?_
  refine c_region hW ?_
  repeat (first
    | (refine c_skG hW rfl (by decide) rfl ?_)
    | (refine c_skU hW rfl (by decide) rfl ?_)
    | (first | refine c_rdG hW (by decide) rfl (by decide) rfl (fun K hK => ?_) | refine c_rd hW (by decide) (fun K hK => ?_)
       simp only [Xa, Xb, Xc, Xd, Xe, Xf, Xg, Xh, Xi, Xj, Xk, Xl, Xm, Xn, Xo, Xp, Xq, Xr, Xs, Xt, Xu, Xv, Xw, Xx, Xy, Xz, XA, XB, XD, XE, XF, XG, XH, XI, ev, XJ, upd, args1, args2, args3, args4, XK, XL, XM, extL, XN, XO, XP, XQ, XR, XT, XU, XV, XW, XX, XY, XZ, X0, X1, X2, X3, Addr.add, ↓reduceIte, Nat.reduceLT, Nat.reduceEqDiff, Nat.zero_add, Nat.reduceAdd, Option.map_some, X4, List.getElem_toArray, List.getElem_cons_zero, List.getElem_cons_succ, x_nil, nilL_some, Option.isSome_some, x_f61_1, x_f61_2, x_f58_2, x_cv3_56, x_cv56_21, x_cv56_59, x_cv3_21, convL_int, bin_shl64, bin_shr64, bin_andB]
       refine hK _ ?_
       clear hK K))
  refine c_here fun rest ho hgo1 => SlipE.stop ⟨rfl, rfl, fun w v wt hwt hv hw => ⟨_, st_add ho (by decide) Try.func57 nm57 rfl nx57 ex57 (ad := stA Wg) (by simp only [Xa, Xb, Xc, Xd, Xe, Xf, Xg, Xh, Xi, Xj, Xk, Xl, Xm, Xn, Xo, Xp, Xq, Xr, Xs, Xt, Xu, Xv, Xw, Xx, Xy, Xz, XA, XB, XD, XE, XF, XG, XH, XI, ev, XJ, upd, args1, args2, args3, args4, XK, XL, XM, extL, XN, XO, XP, XQ, XR, XT, XU, XV, XW, XX, XY, XZ, X0, X1, X2, X3, Addr.add, ↓reduceIte, Nat.reduceLT, Nat.reduceEqDiff, Nat.zero_add, Nat.reduceAdd, Option.map_some, X4, List.getElem_toArray, List.getElem_cons_zero, List.getElem_cons_succ, x_nil, nilL_some, Option.isSome_some, x_f61_1, x_f61_2, x_f58_2, x_cv3_56, x_cv56_21, x_cv56_59, x_cv3_21, convL_int, bin_shl64, bin_shr64, bin_andB, a0]; rfl) (by simp only [Xa, Xb, Xc, Xd, Xe, Xf, Xg, Xh, Xi, Xj, Xk, Xl, Xm, Xn, Xo, Xp, Xq, Xr, Xs, Xt, Xu, Xv, Xw, Xx, Xy, Xz, XA, XB, XD, XE, XF, XG, XH, XI, ev, XJ, upd, args1, args2, args3, args4, XK, XL, XM, extL, XN, XO, XP, XQ, XR, XT, XU, XV, XW, XX, XY, XZ, X0, X1, X2, X3, Addr.add, ↓reduceIte, Nat.reduceLT, Nat.reduceEqDiff, Nat.zero_add, Nat.reduceAdd, Option.map_some, X4, List.getElem_toArray, List.getElem_cons_zero, List.getElem_cons_succ, x_nil, nilL_some, Option.isSome_some, x_f61_1, x_f61_2, x_f58_2, x_cv3_56, x_cv56_21, x_cv56_59, x_cv3_21, convL_int, bin_shl64, bin_shr64, bin_andB]) hw.cellSt (hw.thaw 0) (st_sub v wt hv hwt), ?_⟩⟩
  clear hW
  refine ⟨fun h => ?_, fun h => ?_⟩
  · show SlipE (AtD2 P ty Wg) 1 _
    refine hgo1 (SlipE (AtD2 P ty Wg) 1) _ _ ?_
    have hW := ctl_slip (AtD2 P ty Wg) 1
    repeat (first
      | (refine c_skG hW rfl (by decide) rfl ?_)
      | (refine c_skU hW rfl (by decide) rfl ?_)
      | (first | refine c_rdG hW (by decide) rfl (by decide) rfl (fun K hK => ?_) | refine c_rd hW (by decide) (fun K hK => ?_)
         simp only [Xa, Xb, Xc, Xd, Xe, Xf, Xg, Xh, Xi, Xj, Xk, Xl, Xm, Xn, Xo, Xp, Xq, Xr, Xs, Xt, Xu, Xv, Xw, Xx, Xy, Xz, XA, XB, XD, XE, XF, XG, XH, XI, ev, XJ, upd, args1, args2, args3, args4, XK, XL, XM, extL, XN, XO, XP, XQ, XR, XT, XU, XV, XW, XX, XY, XZ, X0, X1, X2, X3, Addr.add, ↓reduceIte, Nat.reduceLT, Nat.reduceEqDiff, Nat.zero_add, Nat.reduceAdd, Option.map_some, X4, List.getElem_toArray, List.getElem_cons_zero, List.getElem_cons_succ, x_nil, nilL_some, Option.isSome_some, x_f61_1, x_f61_2, x_f58_2, x_cv3_56, x_cv56_21, x_cv56_59, x_cv3_21, convL_int, bin_shl64, bin_shr64, bin_andB]
         refine hK _ ?_
         clear hK K))
    refine c_done hW ?_
    refine c_ret hW ?_
    refine c_leave1 hW rfl Try.func44 Try.results44 ?_
    refine hgo _ _ ?_
    repeat (first
      | (refine c_skG hW rfl (by decide) rfl ?_)
      | (refine c_skU hW rfl (by decide) rfl ?_)
      | (first | refine c_rdG hW (by decide) rfl (by decide) rfl (fun K hK => ?_) | refine c_rd hW (by decide) (fun K hK => ?_)
         simp only [Xa, Xb, Xc, Xd, Xe, Xf, Xg, Xh, Xi, Xj, Xk, Xl, Xm, Xn, Xo, Xp, Xq, Xr, Xs, Xt, Xu, Xv, Xw, Xx, Xy, Xz, XA, XB, XD, XE, XF, XG, XH, XI, ev, XJ, upd, args1, args2, args3, args4, XK, XL, XM, extL, XN, XO, XP, XQ, XR, XT, XU, XV, XW, XX, XY, XZ, X0, X1, X2, X3, Addr.add, ↓reduceIte, Nat.reduceLT, Nat.reduceEqDiff, Nat.zero_add, Nat.reduceAdd, Option.map_some, X4, List.getElem_toArray, List.getElem_cons_zero, List.getElem_cons_succ, x_nil, nilL_some, Option.isSome_some, x_f61_1, x_f61_2, x_f58_2, x_cv3_56, x_cv56_21, x_cv56_59, x_cv3_21, convL_int, bin_shl64, bin_shr64, bin_andB]
         refine hK _ ?_
         clear hK K))
    refine c_done hW ?_
    refine add16 hW v wt hv hwt Wg c1 (c :: cs) _ rfl rfl rfl rfl (fun hn => absurd h hn) (fun _ f q0 q4 q6 q8 => add27 ty Wg c1 (c :: cs) f q0 q4 q6 q8 hq1)
  · show QuitE 1 _
    refine hgo1 (QuitE 1) _ _ ?_
    have hW := ctl_quit 1
    repeat (first
      | (refine c_skG hW rfl (by decide) rfl ?_)
      | (refine c_skU hW rfl (by decide) rfl ?_)
      | (first | refine c_rdG hW (by decide) rfl (by decide) rfl (fun K hK => ?_) | refine c_rd hW (by decide) (fun K hK => ?_)
         simp only [Xa, Xb, Xc, Xd, Xe, Xf, Xg, Xh, Xi, Xj, Xk, Xl, Xm, Xn, Xo, Xp, Xq, Xr, Xs, Xt, Xu, Xv, Xw, Xx, Xy, Xz, XA, XB, XD, XE, XF, XG, XH, XI, ev, XJ, upd, args1, args2, args3, args4, XK, XL, XM, extL, XN, XO, XP, XQ, XR, XT, XU, XV, XW, XX, XY, XZ, X0, X1, X2, X3, Addr.add, ↓reduceIte, Nat.reduceLT, Nat.reduceEqDiff, Nat.zero_add, Nat.reduceAdd, Option.map_some, X4, List.getElem_toArray, List.getElem_cons_zero, List.getElem_cons_succ, x_nil, nilL_some, Option.isSome_some, x_f61_1, x_f61_2, x_f58_2, x_cv3_56, x_cv56_21, x_cv56_59, x_cv3_21, convL_int, bin_shl64, bin_shr64, bin_andB]
         refine hK _ ?_
         clear hK K))
    refine c_done hW ?_
    refine c_ret hW ?_
    refine c_leave1 hW rfl Try.func44 Try.results44 ?_
    refine hgo _ _ ?_
    repeat (first
      | (refine c_skG hW rfl (by decide) rfl ?_)
      | (refine c_skU hW rfl (by decide) rfl ?_)
      | (first | refine c_rdG hW (by decide) rfl (by decide) rfl (fun K hK => ?_) | refine c_rd hW (by decide) (fun K hK => ?_)
         simp only [Xa, Xb, Xc, Xd, Xe, Xf, Xg, Xh, Xi, Xj, Xk, Xl, Xm, Xn, Xo, Xp, Xq, Xr, Xs, Xt, Xu, Xv, Xw, Xx, Xy, Xz, XA, XB, XD, XE, XF, XG, XH, XI, ev, XJ, upd, args1, args2, args3, args4, XK, XL, XM, extL, XN, XO, XP, XQ, XR, XT, XU, XV, XW, XX, XY, XZ, X0, X1, X2, X3, Addr.add, ↓reduceIte, Nat.reduceLT, Nat.reduceEqDiff, Nat.zero_add, Nat.reduceAdd, Option.map_some, X4, List.getElem_toArray, List.getElem_cons_zero, List.getElem_cons_succ, x_nil, nilL_some, Option.isSome_some, x_f61_1, x_f61_2, x_f58_2, x_cv3_56, x_cv56_21, x_cv56_59, x_cv3_21, convL_int, bin_shl64, bin_shr64, bin_andB]
         refine hK _ ?_
         clear hK K))
    refine c_done hW ?_
    refine add16 hW v wt hv hwt Wg c1 (c :: cs) _ rfl rfl rfl rfl (fun _ f todo => ?_) (fun hn => absurd hn h)
    refine q_unwind_mark .enable (.inr rfl) Try.func39 nm39 rfl nx39 ex39 ?_
    exact c_leave0 (ctl_quit 0) rfl Try.func24 Try.results24 hq1
end Go.Proofs.Ytdajdembeacefaa.M

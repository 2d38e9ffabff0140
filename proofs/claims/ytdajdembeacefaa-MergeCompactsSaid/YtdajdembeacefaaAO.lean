/-
  FIRST, its end: 'enough' is closed, the senders are waited for, the answer.
-/
import Derived.Test.YtdajdembeacefaaAN
set_option linter.unusedSimpArgs false
set_option linter.unusedVariables false
namespace Go.Proofs.Ytdajdembeacefaa.M
open Go.Conc
open Go.ConcR (KK wgBlock WgAt stA smA rd wr mk)

def AnchAll (ty : TypeId) (Wg : Nat) (Fin : Gh → Goroutine → World → Prop) (O : Gh) (g : Goroutine) (w : World) : Prop := ∃ c cs, AnchW ty Wg Fin c cs O g w
theorem AtW1.mono {ty : TypeId} {Wg : Nat} {Fin A B : Gh → Goroutine → World → Prop} (hab : ∀ O g w, A O g w → B O g w) {O : Gh} {g : Goroutine} {w : World} (h : AtW1 P ty Wg Fin A O g w) : AtW1 P ty Wg Fin B O g w := by
  refine ⟨h.1, fun v hv hw => ?_⟩
  obtain ⟨g', h1, h2, h3⟩ := h.2 v hv hw
  refine ⟨g', h1, h2, fun hn => (h3 hn).mono fun O g w hh => ⟨hh.1, fun v hv hw => ⟨(hh.2 v hv hw).1, fun hne => ?_⟩⟩⟩
  obtain ⟨g'', h4, h5⟩ := (hh.2 v hv hw).2 hne
  exact ⟨g'', h4, h5.mono hab⟩
theorem anchAll_W1 (ty : TypeId) (Wg : Nat) (Fin : Gh → Goroutine → World → Prop) (O : Gh) (g : Goroutine) (w : World) (h : AnchAll ty Wg Fin O g w) : Tree P x0 (AtW1 P ty Wg Fin (AnchAll ty Wg Fin)) O g w := by
  obtain ⟨c, cs, h⟩ := h
  exact (anch_W1 ty Wg Fin c cs O g w h).mono fun O g w hh => hh.mono fun O g w h => ⟨c, cs, h⟩

noncomputable def hdC : Code → Code
  | .seq a _ => a
  | c => c
noncomputable def bodyB : Code → Code
  | .block _ (.loop b) => b
  | c => c
noncomputable def scope11 : Code := match tlC ((Try.f11).body.getD .skip) with
  | .scope b => b
  | c => c
noncomputable def rest7 : Code := tlC scope11
noncomputable def rest10 : Code := tlC (tlC (tlC rest7))
noncomputable def body2 : Code := bodyB (tlC (hdC rest10))
noncomputable def rest19 : Code := tlC rest10
noncomputable def rest20 : Code := tlC (tlC rest19)
noncomputable def body3 : Code := bodyB (hdC rest20)
noncomputable def rest28 : Code := tlC rest20
theorem nm11 : ((Try.f11).name == "runtime.NumGoroutine") = false := by kernel_rfl
theorem nm28 : ((Try.f28).name == "runtime.NumGoroutine") = false := by kernel_rfl
theorem nm29 : ((Try.f29).name == "runtime.NumGoroutine") = false := by kernel_rfl
theorem nm30 : ((Try.f30).name == "runtime.NumGoroutine") = false := by kernel_rfl

section
variable {main : Bool} {w : World} {b : Frame} {n : Nat} {f : Nat → Value} {ds : List Deferred} {k : List Item} {cs : List Frame} {ops : Array Oper} {rest : List Nat} {i : Nat} {t : TypeId} {p : String} {e : Array Edge} {ats : Array TypeId}
theorem st_close {y : Operand} {c s r : Nat} {tm : Bool} (ho : ops[i]? = some ⟨none, .call { callee := .builtin .close, args := #[y], argTypes := ats }, t, p, e, none⟩) (hk : b.kind ≠ .early) (hy : ev n f y = .chan (some c)) (hc : w.heap[c]? = some (.chan 0 #[] false s r tm)) (hq : (P.funcs[b.fn]?).any (·.norace) = false) :
    stepG P main (G (Fr b n f ds (.inRegion ops (i :: rest) :: k)) cs) w = .go (G (Fr b n f ds (.inRegion ops rest :: k)) cs) (w.shut c s r tm) (closeEv c) := by
  have := stepG_close (P := P) (main := main) (b := b) (a := ⟨mkT n f, ds⟩) (kk := k) (cs := cs) (w := w) (rest := rest) ho rfl hk rfl (by rw [eval_mkT]; exact hy) hc hq
  rw [put_mkT] at this; exact this
end

set_option maxHeartbeats 4000000 in
/-- FIRST's end. -/
theorem fin3 (ty : TypeId) (Wg e F S eb : Nat) (Fin : Gh → Goroutine → World → Prop) (sn : List Snd) (so : Value) (O : Gh) (w : World) (f : Nat → Value) (c : Frame) (cs : List Frame)
    (h8 : f 8 = ptr eb 0) (h9 : f 9 = ptr Wg 0) (h14 : f 14 = so) (he : ldOf x0 O w ⟨eb, 0, none⟩ = some (.chan (some e))) (hd : O.deaf = 0) (hsy : O.tag Wg = .sync) (hsh : w.shape? Wg = some (ty, 2)) (het : O.tag e = .sync) (hel : e < w.heap.size)
    (hfin : ∀ O1 w1, Rel x0 O w O1 w1 → Tree P x0 Fin (reset O1) (G (c.finish (.tuple #[so, .int .i64 0])) cs) w1) :
    MRun P ty Wg e (AnchAll ty Wg Fin) (F + 1) S sn O (G (Fr (base 11) 94 f [] [.code rest28, .inScope scope11]) (c :: cs)) w := by
  show Tree P x0 (MStop P ty Wg e (AnchAll ty Wg Fin) (MRun P ty Wg e (AnchAll ty Wg Fin) F) S sn) _ _ _
  have h8' : f 8 = .pointer (some ⟨eb, 0, none⟩) := h8
  have h9' : f 9 = .pointer (some ⟨Wg, 0, none⟩) := h9
  refine t_seq ?_
  refine t_region ?_
  iterate 1 (first
    | (refine t_skG rfl (by decide) rfl ?_)
    | (refine t_skU rfl (by decide) rfl ?_)
    | (first | refine t_rdG (by decide) rfl (by decide) rfl (fun K hK => ?_) | refine t_rd (by decide) (fun K hK => ?_)
       simp only [Xa, Xb, Xc, Xd, Xe, Xf, Xg, Xh, Xi, Xj, Xk, Xl, Xm, Xn, Xo, Xp, Xq, Xr, Xs, Xt, Xu, Xv, Xw, Xx, Xy, Xz, XA, XB, XD, XE, XF, XG, XH, XI, ev, XJ, upd, args1, args2, args3, args4, XK, XL, XM, extL, XN, XO, XP, XQ, XR, XT, XU, XV, XW, XX, XY, XZ, X0, X1, X2, X3, Addr.add, ↓reduceIte, Nat.reduceLT, Nat.reduceEqDiff, Nat.zero_add, Nat.reduceAdd, Option.map_some, X4, List.getElem_toArray, List.getElem_cons_zero, List.getElem_cons_succ, h8', he]
       refine hK _ ?_
       clear hK K))
  refine t_here fun rest ho hgo => Tree.stop fun O1 w1 r1 => .inr (.inr ⟨rfl, r1.deaf.trans hd, by simp [mayWake, G, Fr, Frame.at, ho], fun s r tm hce => ⟨_, st_close ho (by decide) (by simp only [Xa, Xb, Xc, Xd, Xe, Xf, Xg, Xh, Xi, Xj, Xk, Xl, Xm, Xn, Xo, Xp, Xq, Xr, Xs, Xt, Xu, Xv, Xw, Xx, Xy, Xz, XA, XB, XD, XE, XF, XG, XH, XI, ev, XJ, upd, args1, args2, args3, args4, XK, XL, XM, extL, XN, XO, XP, XQ, XR, XT, XU, XV, XW, XX, XY, XZ, X0, X1, X2, X3, Addr.add, ↓reduceIte, Nat.reduceLT, Nat.reduceEqDiff, Nat.zero_add, Nat.reduceAdd, Option.map_some, X4, List.getElem_toArray, List.getElem_cons_zero, List.getElem_cons_succ]) hce (by kernel_rfl), rfl, ?_⟩⟩)
  have hlt := shape_lt hsh
  have r2 := r1.shut (r1.sy _ hel het) hce
  generalize w1.shut e s r tm = w2 at r2
  refine hgo (fun g => Tree P x0 (AnchAll ty Wg Fin) O1 g w2) _ _ ?_
  have hW := ctl_tree x0 (AnchAll ty Wg Fin) O1 w2
  refine c_done hW ?_
  refine c_seq hW ?_
  refine c_region hW ?_
  refine c_call hW #[.pointer (some ⟨Wg, 0, none⟩)] (by decide) Try.func30 nm30 rfl (by simp only [List.map_toArray, List.map_cons, List.map_nil, Xa, Xb, Xc, Xd, Xe, Xf, Xg, Xh, Xi, Xj, Xk, Xl, Xm, Xn, Xo, Xp, Xq, Xr, Xs, Xt, Xu, Xv, Xw, Xx, Xy, Xz, XA, XB, XD, XE, XF, XG, XH, XI, ev, XJ, upd, args1, args2, args3, args4, XK, XL, XM, extL, XN, XO, XP, XQ, XR, XT, XU, XV, XW, XX, XY, XZ, X0, X1, X2, X3, Addr.add, ↓reduceIte, Nat.reduceLT, Nat.reduceEqDiff, Nat.zero_add, Nat.reduceAdd, Option.map_some, X4, List.getElem_toArray, List.getElem_cons_zero, List.getElem_cons_succ, x_nil, nilL_some, Option.isSome_some, x_f61_1, x_f61_2, x_f58_2, x_cv3_56, x_cv56_21, x_cv56_59, x_cv3_21, convL_int, bin_shl64, bin_shr64, bin_andB, h9']) ?_
  intro c2 hgo2
  refine (wait_M ty Wg Fin c2 (c :: cs) O1 w2 (r2.deaf.trans hd) (r2.sy _ hlt hsy) ((r2.shp _ hlt hsy).trans hsh) fun O3 w3 r3 => ?_).mono fun O g w h => ⟨_, _, h⟩
  refine hgo2 (fun g => Tree P x0 Fin (reset O3) g w3) _ ?_
  refine (?_ : InReg P x0 Fin (reset O3) w3 _ _ _ _ _ _ _ _ _)
  refine t_done ?_
  refine t_seq ?_
  refine t_region ?_
  repeat (first
    | (refine t_skG rfl (by decide) rfl ?_)
    | (refine t_skU rfl (by decide) rfl ?_)
    | (first | refine t_rdG (by decide) rfl (by decide) rfl (fun K hK => ?_) | refine t_rd (by decide) (fun K hK => ?_)
       simp only [Xa, Xb, Xc, Xd, Xe, Xf, Xg, Xh, Xi, Xj, Xk, Xl, Xm, Xn, Xo, Xp, Xq, Xr, Xs, Xt, Xu, Xv, Xw, Xx, Xy, Xz, XA, XB, XD, XE, XF, XG, XH, XI, ev, XJ, upd, args1, args2, args3, args4, XK, XL, XM, extL, XN, XO, XP, XQ, XR, XT, XU, XV, XW, XX, XY, XZ, X0, X1, X2, X3, Addr.add, ↓reduceIte, Nat.reduceLT, Nat.reduceEqDiff, Nat.zero_add, Nat.reduceAdd, Option.map_some, X4, List.getElem_toArray, List.getElem_cons_zero, List.getElem_cons_succ, h14]
       refine hK _ ?_
       clear hK K))
  refine t_done ?_
  refine t_ret ?_
  refine t_leave2 rfl Try.func11 Try.results11 ?_
  exact hfin O3 w3 (r2.trans r3)
end Go.Proofs.Ytdajdembeacefaa.M

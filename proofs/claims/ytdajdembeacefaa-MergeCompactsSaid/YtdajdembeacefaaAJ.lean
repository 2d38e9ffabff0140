/-
  THE SENDER: 'send', and the function that a go statement starts.
-/
import Derived.Test.YtdajdembeacefaaAI
import Derived.Test.YtdajdembeacefaaX
set_option linter.unusedSimpArgs false
set_option linter.unusedVariables false
namespace Go.Proofs.Ytdajdembeacefaa.M
open Go.Conc
open Go.ConcR (KK WgAt stA smA rd wr mk)

section
variable {main : Bool} {w : World} {b : Frame} {n : Nat} {f : Nat → Value} {ds : List Deferred} {k : List Item} {cs : List Frame} {ops : Array Oper} {rest : List Nat} {i : Nat} {d : Nat} {t : TypeId} {p : String} {e : Array Edge} {fn : FuncId} {F : Func} {ats : Array TypeId} {ad : Addr}
theorem st_select2 {y z u : Operand} {e1 e2 : TypeId} {c ee : Nat} {v z1 z2 : Value} (ho : ops[i]? = some ⟨some d, .select #[{ chan := y, send := some z, elem := e1 }, { chan := u, send := none, elem := e2 }] true, t, p, e, none⟩) (hk : b.kind ≠ .early) (hy : ev n f y = .chan (some c)) (hz : ev n f z = v) (hu : ev n f u = .chan (some ee))
    (h1 : runL P (fun _ => none) (zeroValue e1) = some z1) (h2 : runL P (fun _ => none) (zeroValue e2) = some z2) :
    stepG P main (G (Fr b n f ds (.inRegion ops (i :: rest) :: k)) cs) w = .comm (G (Fr b n f ds (.inRegion ops (i :: rest) :: k)) cs) #[scase c v z1, rcase ee z2] true .select w #[] := by
  have r1 := runL_run h1 w
  have r2 := runL_run h2 w
  have q1 := fun es => runL_events h1 w es
  have q2 := fun es => runL_events h2 w es
  have hr : (execOp (Act.mk (mkT n f) ds).eval ⟨some d, .select #[{ chan := y, send := some z, elem := e1 }, { chan := u, send := none, elem := e2 }] true, t, p, e, none⟩).run P w = .ok (.comm #[scase c v z1, rcase ee z2] true .select) w := by
    rw [eval_mkT]
    simp [execOp, hy, hz, hu, r1, r2, scase, rcase, Result.andThen]
  have he : (execOp (Act.mk (mkT n f) ds).eval ⟨some d, .select #[{ chan := y, send := some z, elem := e1 }, { chan := u, send := none, elem := e2 }] true, t, p, e, none⟩).events P w #[] = #[] := by
    rw [eval_mkT]
    simp [execOp, hy, hz, hu, r1, r2, q1, q2, scase, rcase, Result.evThen]
  unfold Fr
  rw [stepG_comm (a := ⟨mkT n f, ds⟩) ho rfl hk hr, listed_none he]
theorem st_recv {y : Operand} {ct : TypeId} {c : Nat} {el : TypeId} {dir : ChanDir} {z1 : Value} (ho : ops[i]? = some ⟨some d, .recv ct y true, t, p, e, none⟩) (hk : b.kind ≠ .early) (hct : P.underlying ct = some (.chan dir el)) (hy : ev n f y = .chan (some c))
    (h1 : runL P (fun _ => none) (zeroValue el) = some z1) :
    stepG P main (G (Fr b n f ds (.inRegion ops (i :: rest) :: k)) cs) w = .comm (G (Fr b n f ds (.inRegion ops (i :: rest) :: k)) cs) #[rcase c z1] true (.recv true) w #[] := by
  have r1 := runL_run h1 w
  have q1 := fun es => runL_events h1 w es
  have hr : (execOp (Act.mk (mkT n f) ds).eval ⟨some d, .recv ct y true, t, p, e, none⟩).run P w = .ok (.comm #[rcase c z1] true (.recv true)) w := by
    rw [eval_mkT]
    simp [execOp, hy, r1, rcase, run_underlying hct]
  have he : (execOp (Act.mk (mkT n f) ds).eval ⟨some d, .recv ct y true, t, p, e, none⟩).events P w #[] = #[] := by
    rw [eval_mkT]
    simp [execOp, hy, r1, q1, rcase, run_underlying hct, Result.evThen]
  unfold Fr
  rw [stepG_comm (a := ⟨mkT n f, ds⟩) ho rfl hk hr, listed_none he]
end

theorem Rel.shut {x : Th} {O O1 : Gh} {w w1 : World} (r : Rel x O w O1 w1) {c s rr : Nat} {tm : Bool} (hs : O1.tag c = .sync) (hc : w1.heap[c]? = some (.chan 0 #[] false s rr tm)) : Rel x O w O1 (w1.shut c s rr tm) := by
  have := (STurn.put (w := w1) (o := .chan 0 #[] true s rr tm) hs (by simp) (chan_shape hc)).rel x O1.deaf
  exact r.trans this
theorem zero3 (L : Addr → Option Value) : runL P L (zeroValue 3) = some (.int .i64 0) := rfl
theorem served_G (fr : Frame) (cs : List Frame) (v : Value) : Go.Conc.served (G fr cs) v = G (fr.finish v) cs := rfl
theorem nm27 : ((Try.f27).name == "runtime.NumGoroutine") = false := by kernel_rfl
theorem nm25 : ((Try.f25).name == "runtime.NumGoroutine") = false := by kernel_rfl
noncomputable def loop27 : Code := match tlC (tlC ((Try.f27).body.getD .skip)) with
  | .block _ (.loop b) => b
  | c => c
theorem Sl.get {sz : Nat} {L : Addr → Option Value} {v : Value} {cs : List (Array Value)} (h : Sl sz L v cs) (i : Nat) (hi : i < cs.length) : ∃ b o c, v = .slice (some ⟨b, o, none⟩) cs.length c := by
  rcases h with ⟨rfl, _⟩ | ⟨b, o, c, h, _⟩
  · simp at hi
  · exact ⟨b, o, c, h⟩

set_option maxHeartbeats 8000000 in
theorem send_M {x : Th} (hx : (x.id == 0) = false) (ty : TypeId) (Wg e ch : Nat) (l : List Ent) (v : Value) (O : Gh) (w : World) (hv : SlE (ldOf x O w) v l) (hlen : l.length < 1000000) (hd : O.deaf = 0) (hct : O.tag ch = .sync) (hcl : ch < w.heap.size) (cf : Frame) (cs : List Frame)
    (hend : ∀ O' w', Rel x O w O' w' → Tree P x (AtR0 P ty Wg) O' (G (cf.finish (.tuple #[])) cs) w') :
    SRun P ty Wg e x ch (l.map Ent.v) O (G (Frame.enter P 27 #[v, .chan (some ch), .chan (some e)] .normal) (cf :: cs)) w := by
  have loop : ∀ (m j : Nat), j + m = l.length → ∀ (f : Nat → Value) (O1 : Gh) (w1 : World), Rel x O w O1 w1 → f 1 = .chan (some ch) → f 2 = .chan (some e) → f 9 = v → f 10 = .int .i64 (l.length : Int) → f 11 = .int .i64 (j : Int) →
      SRun P ty Wg e x ch ((l.drop j).map Ent.v) O1 (G (Fr (base 27) 23 f [bclose ch #[88] 0] [.code loop27, .inLoop loop27, .inBlock 0]) (cf :: cs)) w1 := by
    have out : ∀ (f : Nat → Value) (todo : List Item) (O1 : Gh) (w1 : World), Rel x O w O1 w1 → Tree P x (AtClose P ty Wg x ch) O1 (G { Fr (base 27) 23 f [bclose ch #[88] 0] todo with mode := .returning } (cf :: cs)) w1 := by
      intro f todo O1 w1 r1
      refine Tree.stop fun O2 w2 r2 => ⟨rfl, (r1.trans r2).deaf.trans hd, rfl, fun s r tm hch => ⟨_, step_unwind_close (by kernel_rfl) hch, rfl, ?_⟩⟩
      have r3 := r1.trans r2
      have r4 := r3.shut (r3.sy _ hcl hct) hch
      refine t_leave0 rfl Try.func27 Try.results27 ?_
      exact hend _ _ r4
    intro m
    induction m with
    | zero =>
      intro j hj f O1 w1 r1 h1 h2 h9 h10 h11
      rw [List.drop_of_length_le (by omega)]
      show Tree P x (AtClose P ty Wg x ch) _ _ _
      have hd0 : decide ((j : Int) < (l.length : Int)) = false := by simp; omega
      refine t_seq ?_
      refine t_region ?_
      repeat (first
        | (refine t_skG rfl (by decide) rfl ?_)
        | (refine t_skU rfl (by decide) rfl ?_)
        | (first | refine t_rdG (by decide) rfl (by decide) rfl (fun K hK => ?_) | refine t_rd (by decide) (fun K hK => ?_)
           simp only [Xa, Xb, Xc, Xd, Xe, Xf, Xg, Xh, Xi, Xj, Xk, Xl, Xm, Xn, Xo, Xp, Xq, Xr, Xs, Xt, Xu, Xv, Xw, Xx, Xy, Xz, XA, XB, XD, XE, XF, XG, XH, XI, ev, XJ, upd, args1, args2, args3, args4, XK, XL, XM, extL, XN, XO, XP, XQ, XR, XT, XU, XV, XW, XX, XY, XZ, X0, X1, X2, X3, Addr.add, ↓reduceIte, Nat.reduceLT, Nat.reduceEqDiff, Nat.zero_add, Nat.reduceAdd, Option.map_some, X4, List.getElem_toArray, List.getElem_cons_zero, List.getElem_cons_succ, h10, h11, hd0]
           refine hK _ ?_
           clear hK K))
      refine t_done ?_
      refine t_seq ?_
      refine t_false rfl ?_
      refine t_exit rfl ?_
      refine t_end ?_
      exact out _ _ O1 w1 r1
    | succ m ih =>
      intro j hj f O1 w1 r1 h1 h2 h9 h10 h11
      have hlt : j < l.length := by omega
      rw [List.drop_eq_getElem_cons hlt, List.map_cons]
      show Tree P x (AtSel P ty Wg e x ch l[j].v (SRun P ty Wg e x ch ((l.drop (j + 1)).map Ent.v))) _ _ _
      have hd0 : decide ((j : Int) < (l.length : Int)) = true := by simp; omega
      have hv1 := hv.rely r1
      obtain ⟨A, hA⟩ := hv1.at (List.getElem?_eq_getElem hlt)
      have iA := hA.idx
      have lA := hA.whole
      refine t_seq ?_
      refine t_region ?_
      repeat (first
        | (refine t_skG rfl (by decide) rfl ?_)
        | (refine t_skU rfl (by decide) rfl ?_)
        | (first | refine t_rdG (by decide) rfl (by decide) rfl (fun K hK => ?_) | refine t_rd (by decide) (fun K hK => ?_)
           simp only [Xa, Xb, Xc, Xd, Xe, Xf, Xg, Xh, Xi, Xj, Xk, Xl, Xm, Xn, Xo, Xp, Xq, Xr, Xs, Xt, Xu, Xv, Xw, Xx, Xy, Xz, XA, XB, XD, XE, XF, XG, XH, XI, ev, XJ, upd, args1, args2, args3, args4, XK, XL, XM, extL, XN, XO, XP, XQ, XR, XT, XU, XV, XW, XX, XY, XZ, X0, X1, X2, X3, Addr.add, ↓reduceIte, Nat.reduceLT, Nat.reduceEqDiff, Nat.zero_add, Nat.reduceAdd, Option.map_some, X4, List.getElem_toArray, List.getElem_cons_zero, List.getElem_cons_succ, h10, h11, hd0]
           refine hK _ ?_
           clear hK K))
      refine t_done ?_
      refine t_seq ?_
      refine t_true rfl ?_
      refine t_skip ?_
      refine t_seq ?_
      refine t_block ?_
      refine t_seq ?_
      refine t_region ?_
      iterate 2 (first
        | (refine t_skG rfl (by decide) rfl ?_)
        | (refine t_skU rfl (by decide) rfl ?_)
        | (first | refine t_rdG (by decide) rfl (by decide) rfl (fun K hK => ?_) | refine t_rd (by decide) (fun K hK => ?_)
           simp only [Xa, Xb, Xc, Xd, Xe, Xf, Xg, Xh, Xi, Xj, Xk, Xl, Xm, Xn, Xo, Xp, Xq, Xr, Xs, Xt, Xu, Xv, Xw, Xx, Xy, Xz, XA, XB, XD, XE, XF, XG, XH, XI, ev, XJ, upd, args1, args2, args3, args4, XK, XL, XM, extL, XN, XO, XP, XQ, XR, XT, XU, XV, XW, XX, XY, XZ, X0, X1, X2, X3, Addr.add, ↓reduceIte, Nat.reduceLT, Nat.reduceEqDiff, Nat.zero_add, Nat.reduceAdd, Option.map_some, X4, List.getElem_toArray, List.getElem_cons_zero, List.getElem_cons_succ, h9, h11, iA, lA]
           refine hK _ ?_
           clear hK K))
      refine t_alloc (by decide) (zero37 _) ?_
      intro m1 O2 w2 n2
      refine t_store (sz := 4) (m := m1) (off := 0) [.string l[j].key, .int .i64 l[j].seq, .bool l[j].del, .string l[j].val] (by decide) rfl (by simp only [Xa, Xb, Xc, Xd, Xe, Xf, Xg, Xh, Xi, Xj, Xk, Xl, Xm, Xn, Xo, Xp, Xq, Xr, Xs, Xt, Xu, Xv, Xw, Xx, Xy, Xz, XA, XB, XD, XE, XF, XG, XH, XI, ev, XJ, upd, args1, args2, args3, args4, XK, XL, XM, extL, XN, XO, XP, XQ, XR, XT, XU, XV, XW, XX, XY, XZ, X0, X1, X2, X3, Addr.add, ↓reduceIte, Nat.reduceLT, Nat.reduceEqDiff, Nat.zero_add, Nat.reduceAdd, Option.map_some, X4, List.getElem_toArray, List.getElem_cons_zero, List.getElem_cons_succ]) (by simp only [Xa, Xb, Xc, Xd, Xe, Xf, Xg, Xh, Xi, Xj, Xk, Xl, Xm, Xn, Xo, Xp, Xq, Xr, Xs, Xt, Xu, Xv, Xw, Xx, Xy, Xz, XA, XB, XD, XE, XF, XG, XH, XI, ev, XJ, upd, args1, args2, args3, args4, XK, XL, XM, extL, XN, XO, XP, XQ, XR, XT, XU, XV, XW, XX, XY, XZ, X0, X1, X2, X3, Addr.add, ↓reduceIte, Nat.reduceLT, Nat.reduceEqDiff, Nat.zero_add, Nat.reduceAdd, Option.map_some, X4, List.getElem_toArray, List.getElem_cons_zero, List.getElem_cons_succ]; rfl) rfl (by simp [one?]) (.inl n2.tag) n2.obj (by decide) ?_
      intro O3 w3 w4 r3 hm4 ht4 hb4
      have r4 : Rel x O w O3 w4 := (((r1.trans n2.rel).trans r3).mod hm4 (Nat.le_trans r1.size n2.ge))
      have l0 : ldOf x O3 w4 ⟨m1, 0, none⟩ = some (.string l[j].key) := ldOf_of (.inl (ht4.trans n2.tag)) (by unfold World.cell?; rw [hb4]; rfl)
      have l1 : ldOf x O3 w4 ⟨m1, 1, none⟩ = some (.int .i64 l[j].seq) := ldOf_of (.inl (ht4.trans n2.tag)) (by unfold World.cell?; rw [hb4]; rfl)
      have l2 : ldOf x O3 w4 ⟨m1, 2, none⟩ = some (.bool l[j].del) := ldOf_of (.inl (ht4.trans n2.tag)) (by unfold World.cell?; rw [hb4]; rfl)
      have l3 : ldOf x O3 w4 ⟨m1, 3, none⟩ = some (.string l[j].val) := ldOf_of (.inl (ht4.trans n2.tag)) (by unfold World.cell?; rw [hb4]; rfl)
      have lw : loadN (ldOf x O3 w4) 4 (.pointer (some ⟨m1, 0, none⟩)) = some (.value l[j].v) := loadN4 (by rw [add_none]; exact l0) (by rw [add_none]; exact l1) (by rw [add_none]; exact l2) (by rw [add_none]; exact l3)
      refine t_done ?_
      refine t_seq ?_
      refine t_seq ?_
      refine t_seq ?_
      refine t_region ?_
      repeat (first
        | (refine t_skG rfl (by decide) rfl ?_)
        | (refine t_skU rfl (by decide) rfl ?_)
        | (first | refine t_rdG (by decide) rfl (by decide) rfl (fun K hK => ?_) | refine t_rd (by decide) (fun K hK => ?_)
           simp only [Xa, Xb, Xc, Xd, Xe, Xf, Xg, Xh, Xi, Xj, Xk, Xl, Xm, Xn, Xo, Xp, Xq, Xr, Xs, Xt, Xu, Xv, Xw, Xx, Xy, Xz, XA, XB, XD, XE, XF, XG, XH, XI, ev, XJ, upd, args1, args2, args3, args4, XK, XL, XM, extL, XN, XO, XP, XQ, XR, XT, XU, XV, XW, XX, XY, XZ, X0, X1, X2, X3, Addr.add, ↓reduceIte, Nat.reduceLT, Nat.reduceEqDiff, Nat.zero_add, Nat.reduceAdd, Option.map_some, X4, List.getElem_toArray, List.getElem_cons_zero, List.getElem_cons_succ, h1]
           refine hK _ ?_
           clear hK K))
      refine t_done ?_
      refine t_region ?_
      repeat (first
        | (refine t_skG rfl (by decide) rfl ?_)
        | (refine t_skU rfl (by decide) rfl ?_)
        | (first | refine t_rdG (by decide) rfl (by decide) rfl (fun K hK => ?_) | refine t_rd (by decide) (fun K hK => ?_)
           simp only [Xa, Xb, Xc, Xd, Xe, Xf, Xg, Xh, Xi, Xj, Xk, Xl, Xm, Xn, Xo, Xp, Xq, Xr, Xs, Xt, Xu, Xv, Xw, Xx, Xy, Xz, XA, XB, XD, XE, XF, XG, XH, XI, ev, XJ, upd, args1, args2, args3, args4, XK, XL, XM, extL, XN, XO, XP, XQ, XR, XT, XU, XV, XW, XX, XY, XZ, X0, X1, X2, X3, Addr.add, ↓reduceIte, Nat.reduceLT, Nat.reduceEqDiff, Nat.zero_add, Nat.reduceAdd, Option.map_some, X4, List.getElem_toArray, List.getElem_cons_zero, List.getElem_cons_succ, lw]
           refine hK _ ?_
           clear hK K))
      refine t_done ?_
      refine t_region ?_
      repeat (first
        | (refine t_skG rfl (by decide) rfl ?_)
        | (refine t_skU rfl (by decide) rfl ?_)
        | (first | refine t_rdG (by decide) rfl (by decide) rfl (fun K hK => ?_) | refine t_rd (by decide) (fun K hK => ?_)
           simp only [Xa, Xb, Xc, Xd, Xe, Xf, Xg, Xh, Xi, Xj, Xk, Xl, Xm, Xn, Xo, Xp, Xq, Xr, Xs, Xt, Xu, Xv, Xw, Xx, Xy, Xz, XA, XB, XD, XE, XF, XG, XH, XI, ev, XJ, upd, args1, args2, args3, args4, XK, XL, XM, extL, XN, XO, XP, XQ, XR, XT, XU, XV, XW, XX, XY, XZ, X0, X1, X2, X3, Addr.add, ↓reduceIte, Nat.reduceLT, Nat.reduceEqDiff, Nat.zero_add, Nat.reduceAdd, Option.map_some, X4, List.getElem_toArray, List.getElem_cons_zero, List.getElem_cons_succ, h2]
           refine hK _ ?_
           clear hK K))
      refine t_done ?_
      refine t_seq ?_
      refine t_region ?_
      refine t_here fun rest ho hgo => Tree.stop fun O5 w5 r5 => ⟨rfl, rfl, _, _, fun w => st_select2 ho (by decide) (by simp only [Xa, Xb, Xc, Xd, Xe, Xf, Xg, Xh, Xi, Xj, Xk, Xl, Xm, Xn, Xo, Xp, Xq, Xr, Xs, Xt, Xu, Xv, Xw, Xx, Xy, Xz, XA, XB, XD, XE, XF, XG, XH, XI, ev, XJ, upd, args1, args2, args3, args4, XK, XL, XM, extL, XN, XO, XP, XQ, XR, XT, XU, XV, XW, XX, XY, XZ, X0, X1, X2, X3, Addr.add, ↓reduceIte, Nat.reduceLT, Nat.reduceEqDiff, Nat.zero_add, Nat.reduceAdd, Option.map_some, X4, List.getElem_toArray, List.getElem_cons_zero, List.getElem_cons_succ]) (by simp only [Xa, Xb, Xc, Xd, Xe, Xf, Xg, Xh, Xi, Xj, Xk, Xl, Xm, Xn, Xo, Xp, Xq, Xr, Xs, Xt, Xu, Xv, Xw, Xx, Xy, Xz, XA, XB, XD, XE, XF, XG, XH, XI, ev, XJ, upd, args1, args2, args3, args4, XK, XL, XM, extL, XN, XO, XP, XQ, XR, XT, XU, XV, XW, XX, XY, XZ, X0, X1, X2, X3, Addr.add, ↓reduceIte, Nat.reduceLT, Nat.reduceEqDiff, Nat.zero_add, Nat.reduceAdd, Option.map_some, X4, List.getElem_toArray, List.getElem_cons_zero, List.getElem_cons_succ]) (by simp only [Xa, Xb, Xc, Xd, Xe, Xf, Xg, Xh, Xi, Xj, Xk, Xl, Xm, Xn, Xo, Xp, Xq, Xr, Xs, Xt, Xu, Xv, Xw, Xx, Xy, Xz, XA, XB, XD, XE, XF, XG, XH, XI, ev, XJ, upd, args1, args2, args3, args4, XK, XL, XM, extL, XN, XO, XP, XQ, XR, XT, XU, XV, XW, XX, XY, XZ, X0, X1, X2, X3, Addr.add, ↓reduceIte, Nat.reduceLT, Nat.reduceEqDiff, Nat.zero_add, Nat.reduceAdd, Option.map_some, X4, List.getElem_toArray, List.getElem_cons_zero, List.getElem_cons_succ]) (zero37 _) (zero3 _), fun O6 w6 r6 => ⟨?_, ?_⟩⟩
      · rw [served_G, Fr_finish, ho]
        rw [SRun_eq]
        refine hgo (fun g => Tree P x _ O6 g w6) _ _ ?_
        have e0 : ((0 : Int) == 0) = true := by decide
        have e1 : ((0 : Int) == 1) = false := by decide
        have ex : extL 0 (selSent (.int .i64 0)) = some (.value (.int .i64 0)) := rfl
        refine (?_ : InReg P x _ O6 w6 _ _ _ _ _ _ _ _ _)
        simp only [Option.bind_some, XJ]
        repeat (first
          | (refine t_skG rfl (by decide) rfl ?_)
          | (refine t_skU rfl (by decide) rfl ?_)
          | (first | refine t_rdG (by decide) rfl (by decide) rfl (fun K hK => ?_) | refine t_rd (by decide) (fun K hK => ?_)
             simp only [Xa, Xb, Xc, Xd, Xe, Xf, Xg, Xh, Xi, Xj, Xk, Xl, Xm, Xn, Xo, Xp, Xq, Xr, Xs, Xt, Xu, Xv, Xw, Xx, Xy, Xz, XA, XB, XD, XE, XF, XG, XH, XI, ev, XJ, upd, args1, args2, args3, args4, XK, XL, XM, extL, XN, XO, XP, XQ, XR, XT, XU, XV, XW, XX, XY, XZ, X0, X1, X2, X3, Addr.add, ↓reduceIte, Nat.reduceLT, Nat.reduceEqDiff, Nat.zero_add, Nat.reduceAdd, Option.map_some, X4, List.getElem_toArray, List.getElem_cons_zero, List.getElem_cons_succ, ex, e0, e1]
             refine hK _ ?_
             clear hK K))
        refine t_done ?_
        refine t_block ?_
        refine t_true rfl ?_
        refine t_skip ?_
        refine t_inBlock ?_
        refine t_inBlock ?_
        have hw2 : IntKind.i64.wrap ((j : Int) + 1) = ((j + 1 : Nat) : Int) := by rw [wrap64] <;> omega
        refine t_region ?_
        repeat (first
          | (refine t_skG rfl (by decide) rfl ?_)
          | (refine t_skU rfl (by decide) rfl ?_)
          | (first | refine t_rdG (by decide) rfl (by decide) rfl (fun K hK => ?_) | refine t_rd (by decide) (fun K hK => ?_)
             simp only [Xa, Xb, Xc, Xd, Xe, Xf, Xg, Xh, Xi, Xj, Xk, Xl, Xm, Xn, Xo, Xp, Xq, Xr, Xs, Xt, Xu, Xv, Xw, Xx, Xy, Xz, XA, XB, XD, XE, XF, XG, XH, XI, ev, XJ, upd, args1, args2, args3, args4, XK, XL, XM, extL, XN, XO, XP, XQ, XR, XT, XU, XV, XW, XX, XY, XZ, X0, X1, X2, X3, Addr.add, ↓reduceIte, Nat.reduceLT, Nat.reduceEqDiff, Nat.zero_add, Nat.reduceAdd, Option.map_some, X4, List.getElem_toArray, List.getElem_cons_zero, List.getElem_cons_succ, h11, hw2]
             refine hK _ ?_
             clear hK K))
        refine t_done ?_
        refine t_inLoop ?_
        rw [← SRun_eq]
        exact ih (j + 1) (by omega) _ O6 w6 ((r4.trans r5).trans r6) h1 h2 h9 h10 rfl
      · rw [served_G, Fr_finish, ho]
        refine hgo (fun g => Tree P x _ O6 g w6) _ _ ?_
        have e0 : ((1 : Int) == 0) = false := by decide
        have e1 : ((1 : Int) == 1) = true := by decide
        have ex : extL 0 (selShut (.int .i64 0)) = some (.value (.int .i64 1)) := rfl
        refine (?_ : InReg P x _ O6 w6 _ _ _ _ _ _ _ _ _)
        simp only [Option.bind_some, XJ]
        repeat (first
          | (refine t_skG rfl (by decide) rfl ?_)
          | (refine t_skU rfl (by decide) rfl ?_)
          | (first | refine t_rdG (by decide) rfl (by decide) rfl (fun K hK => ?_) | refine t_rd (by decide) (fun K hK => ?_)
             simp only [Xa, Xb, Xc, Xd, Xe, Xf, Xg, Xh, Xi, Xj, Xk, Xl, Xm, Xn, Xo, Xp, Xq, Xr, Xs, Xt, Xu, Xv, Xw, Xx, Xy, Xz, XA, XB, XD, XE, XF, XG, XH, XI, ev, XJ, upd, args1, args2, args3, args4, XK, XL, XM, extL, XN, XO, XP, XQ, XR, XT, XU, XV, XW, XX, XY, XZ, X0, X1, X2, X3, Addr.add, ↓reduceIte, Nat.reduceLT, Nat.reduceEqDiff, Nat.zero_add, Nat.reduceAdd, Option.map_some, X4, List.getElem_toArray, List.getElem_cons_zero, List.getElem_cons_succ, ex, e0, e1]
             refine hK _ ?_
             clear hK K))
        refine t_done ?_
        refine t_block ?_
        refine t_false rfl ?_
        refine t_true rfl ?_
        refine t_ret ?_
        exact out _ _ O6 w6 ((r4.trans r5).trans r6)
  rw [enter3 _ _ _ Try.func27 rfl Try.ntmps27 (by decide)]
  have hl := hv.len
  rw [SRun_eq]
  refine t_seq ?_
  refine t_region ?_
  iterate 1 (first
    | (refine t_skG rfl (by decide) rfl ?_)
    | (refine t_skU rfl (by decide) rfl ?_)
    | (first | refine t_rdG (by decide) rfl (by decide) rfl (fun K hK => ?_) | refine t_rd (by decide) (fun K hK => ?_)
       simp only [Xa, Xb, Xc, Xd, Xe, Xf, Xg, Xh, Xi, Xj, Xk, Xl, Xm, Xn, Xo, Xp, Xq, Xr, Xs, Xt, Xu, Xv, Xw, Xx, Xy, Xz, XA, XB, XD, XE, XF, XG, XH, XI, ev, XJ, upd, args1, args2, args3, args4, XK, XL, XM, extL, XN, XO, XP, XQ, XR, XT, XU, XV, XW, XX, XY, XZ, X0, X1, X2, X3, Addr.add, ↓reduceIte, Nat.reduceLT, Nat.reduceEqDiff, Nat.zero_add, Nat.reduceAdd, Option.map_some, X4, List.getElem_toArray, List.getElem_cons_zero, List.getElem_cons_succ]
       refine hK _ ?_
       clear hK K))
  refine t_deferClose (c := ch) (by decide) (by simp only [Xa, Xb, Xc, Xd, Xe, Xf, Xg, Xh, Xi, Xj, Xk, Xl, Xm, Xn, Xo, Xp, Xq, Xr, Xs, Xt, Xu, Xv, Xw, Xx, Xy, Xz, XA, XB, XD, XE, XF, XG, XH, XI, ev, XJ, upd, args1, args2, args3, args4, XK, XL, XM, extL, XN, XO, XP, XQ, XR, XT, XU, XV, XW, XX, XY, XZ, X0, X1, X2, X3, Addr.add, ↓reduceIte, Nat.reduceLT, Nat.reduceEqDiff, Nat.zero_add, Nat.reduceAdd, Option.map_some, X4, List.getElem_toArray, List.getElem_cons_zero, List.getElem_cons_succ]) ?_
  refine t_done ?_
  refine t_seq ?_
  refine t_region ?_
  repeat (first
    | (refine t_skG rfl (by decide) rfl ?_)
    | (refine t_skU rfl (by decide) rfl ?_)
    | (first | refine t_rdG (by decide) rfl (by decide) rfl (fun K hK => ?_) | refine t_rd (by decide) (fun K hK => ?_)
       simp only [Xa, Xb, Xc, Xd, Xe, Xf, Xg, Xh, Xi, Xj, Xk, Xl, Xm, Xn, Xo, Xp, Xq, Xr, Xs, Xt, Xu, Xv, Xw, Xx, Xy, Xz, XA, XB, XD, XE, XF, XG, XH, XI, ev, XJ, upd, args1, args2, args3, args4, XK, XL, XM, extL, XN, XO, XP, XQ, XR, XT, XU, XV, XW, XX, XY, XZ, X0, X1, X2, X3, Addr.add, ↓reduceIte, Nat.reduceLT, Nat.reduceEqDiff, Nat.zero_add, Nat.reduceAdd, Option.map_some, X4, List.getElem_toArray, List.getElem_cons_zero, List.getElem_cons_succ, hl]
       refine hK _ ?_
       clear hK K))
  refine t_done ?_
  refine t_block ?_
  refine t_loop ?_
  rw [← SRun_eq]
  exact loop l.length 0 (by omega) _ O w (Rel.refl x O w) rfl rfl rfl rfl rfl
end Go.Proofs.Ytdajdembeacefaa.M

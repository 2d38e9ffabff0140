/-
  'next', in the phase: a receive, and the front is written.
-/
import Derived.Test.YtdajdembeacefaaAL
set_option linter.unusedSimpArgs false
set_option linter.unusedVariables false
namespace Go.Proofs.Ytdajdembeacefaa.M
open Go.Conc
open Go.ConcR (KK wgBlock WgAt stA smA rd wr mk)

/-- What main suffers while it writes block m alone. -/
structure RelM (m : Nat) (O : Gh) (w : World) (O1 : Gh) (w1 : World) : Prop where
  size : w.heap.size ≤ w1.heap.size
  tape : w1.tape = w.tape
  os : w1.os = w.os
  output : w1.output = w.output
  deaf : O1.deaf = O.deaf
  tags : ∀ b, b < w.heap.size → Sees x0 O b → O1.tag b = O.tag b
  block : ∀ b, b < w.heap.size → b ≠ m → Sees x0 O b → w1.heap[b]? = w.heap[b]?
  sy : ∀ b, b < w.heap.size → O.tag b = .sync → O1.tag b = .sync
  shp : ∀ b, b < w.heap.size → O.tag b = .sync → w1.shape? b = w.shape? b
theorem Rel.relM {O O1 : Gh} {w w1 : World} (m : Nat) (r : Rel x0 O w O1 w1) : RelM m O w O1 w1 :=
  ⟨r.size, r.tape, r.os, r.output, r.deaf, r.tags, fun b hb _ h => r.block b hb h, r.sy, r.shp⟩
theorem Mod.relM {O O1 : Gh} {w w1 : World} {m : Nat} (k : Mod O w O1 w1 m) (hm : O.tag m ≠ .sync) : RelM m O w O1 w1 :=
  ⟨k.size, k.tape, k.os, k.output, k.deaf, fun b hb _ => k.tags b hb, fun b hb hn _ => k.block b hb hn, fun b hb h => (k.tags b hb).trans h, fun b hb h => shape_congr (k.block b hb fun e => hm (e ▸ h))⟩
theorem RelM.trans {m : Nat} {O O1 O2 : Gh} {w w1 w2 : World} (h : RelM m O w O1 w1) (k : RelM m O1 w1 O2 w2) : RelM m O w O2 w2 := by
  have up : ∀ {b}, b < w.heap.size → b < w1.heap.size := fun hb => Nat.lt_of_lt_of_le hb h.size
  exact ⟨Nat.le_trans h.size k.size, k.tape.trans h.tape, k.os.trans h.os, k.output.trans h.output, k.deaf.trans h.deaf, fun b hb hs => (k.tags b (up hb) (hs.of_tag (h.tags b hb hs))).trans (h.tags b hb hs),
    fun b hb hn hs => (k.block b (up hb) hn (hs.of_tag (h.tags b hb hs))).trans (h.block b hb hn hs), fun b hb hs => k.sy b (up hb) (h.sy b hb hs), fun b hb hs => (k.shp b (up hb) (h.sy b hb hs)).trans (h.shp b hb hs)⟩
theorem RelM.refl (m : Nat) (O : Gh) (w : World) : RelM m O w O w := (Rel.refl x0 O w).relM m
section
variable {m : Nat} {O O1 : Gh} {w w1 : World}
theorem RelM.buf {sz mb : Nat} {s : Value} {cs : List (Array Value)} (k : RelM m O w O1 w1) (h : Buf sz x0 O w mb s cs) (hm : mb ≠ m ∨ cs = []) : Buf sz x0 O1 w1 mb s cs ∨ cs = [] := by
  by_cases hc : cs = []
  · exact .inr hc
  · left
    have hm := hm.resolve_right hc
    refine ⟨h.1, h.2.imp id fun ⟨cap, c, t, h1, h2, h3, h4, h5, h6⟩ => ?_⟩
    have hlt := (Array.getElem?_eq_some_iff.1 h3).1
    exact ⟨cap, c, t, h1, (k.tags mb hlt (.inl h2)).trans h2, (k.block mb hlt hm (.inl h2)).trans h3, h4, h5, h6⟩
theorem RelM.buf' {sz mb : Nat} {s : Value} {cs : List (Array Value)} (k : RelM m O w O1 w1) (h : Buf sz x0 O w mb s cs) (hm : O.tag m ≠ .mine 0) : Buf sz x0 O1 w1 mb s cs := by
  refine ⟨h.1, h.2.imp id fun ⟨cap, c, t, h1, h2, h3, h4, h5, h6⟩ => ?_⟩
  have hlt := (Array.getElem?_eq_some_iff.1 h3).1
  have hne : mb ≠ m := fun e => hm (e ▸ h2)
  exact ⟨cap, c, t, h1, (k.tags mb hlt (.inl h2)).trans h2, (k.block mb hlt hne (.inl h2)).trans h3, h4, h5, h6⟩
theorem RelM.held {S : Nat} {Oc : Gh} {wc : World} (k : RelM m O w O1 w1) (h : Held S Oc wc O w) (hm : wc.heap.size ≤ m) : Held S Oc wc O1 w1 := by
  refine ⟨Nat.le_trans h.size k.size, k.tape.trans h.tape, k.os.trans h.os, k.output.trans h.output, k.deaf.trans h.deaf, fun b hb ht => ?_⟩
  obtain ⟨h1, h2⟩ := h.own b hb ht
  have hb1 := Nat.lt_of_lt_of_le hb h.size
  have hs : Sees x0 O b := by
    rcases h1 with h1 | ⟨h1, _⟩
    · exact .inr (.inl ⟨h1, .inl rfl⟩)
    · exact .inl h1
  rw [k.tags b hb1 hs, k.block b hb1 (by omega) hs]
  exact ⟨h1, h2⟩
theorem RelM.fros {fro : List Fro} {i : Nat} {q q' : Fro} (k : RelM q.b O w O1 w1) (h : Fros O w fro) (hi : fro[i]? = some q) (hb : q'.b = q.b) (hq : FrOK O1 w1 q') : Fros O1 w1 (fro.set i q') := by
  have hlt := (List.getElem?_eq_some_iff.1 hi).1
  have hmap : (fro.set i q').map Fro.b = fro.map Fro.b := by
    rw [List.map_set, hb]
    apply List.ext_getElem?
    intro j
    rw [List.getElem?_set]
    split
    · rename_i e; subst e
      rw [List.getElem?_map, hi, List.length_map]; simp [hlt]
    · rfl
  refine ⟨fun p hp => ?_, by rw [hmap]; exact h.nd⟩
  obtain ⟨j, hj⟩ := List.getElem?_of_mem hp
  by_cases hne : i = j
  · subst hne
    rw [List.getElem?_set_self hlt] at hj
    cases hj; exact hq
  · rw [List.getElem?_set_ne hne] at hj
    have hp0 := h.ok p (List.mem_of_getElem? hj)
    have hpb : p.b ≠ q.b := fun e => hne (by
      have h1 : (fro.map Fro.b)[j]? = some p.b := by rw [List.getElem?_map, hj]; rfl
      have h2 : (fro.map Fro.b)[i]? = some q.b := by rw [List.getElem?_map, hi]; rfl
      rw [e] at h1
      exact (List.getElem?_inj (by simpa using hlt) h.nd).1 (h2.trans h1.symm))
    have hpl := (Array.getElem?_eq_some_iff.1 hp0.cell).1
    have hs : Sees x0 O p.b := .inr (.inr ⟨hp0.tag, rfl⟩)
    exact ⟨(k.tags _ hpl hs).trans hp0.tag, (k.block _ hpl hpb hs).trans hp0.cell⟩
end

/-- What a receive leaves of a sender's list, and brings. -/
def rcvE (q : Fro) : List Ent → Fro
  | [] => { q with e := ⟨⟨#[]⟩, 0, false, ⟨#[]⟩⟩, more := false }
  | a :: _ => { q with e := a, more := true }
theorem rcvE_b (q : Fro) (r : List Ent) : (rcvE q r).b = q.b := by cases r <;> rfl
theorem rcvE_c (q : Fro) (r : List Ent) : (rcvE q r).c = q.c := by cases r <;> rfl
def rcvS (sn : List Snd) (j : Nat) (c : Nat) : List Ent → List Snd
  | [] => sn
  | _ :: r => sn.set j (c, r.map Ent.v)

set_option maxHeartbeats 4000000 in
theorem next_M (ty : TypeId) (Wg e F S : Nat) (An : Gh → Goroutine → World → Prop) (sn : List Snd) (j : Nat) (q : Fro) (r : List Ent) (O : Gh) (w : World) (c : Frame) (cs : List Frame) (hq : FrOK O w q) (hj : sn[j]? = some (q.c, r.map Ent.v))
    (h : ∀ O' w', RelM q.b O w O' w' → FrOK O' w' (rcvE q r) → MRun P ty Wg e An (F + 1) S (rcvS sn j q.c r) O' (G (c.finish (.tuple #[])) cs) w') :
    MRun P ty Wg e An (F + 2) S sn O (G (Frame.enter P 28 #[q.ptr] .normal) (c :: cs)) w := by
  show Tree P x0 (MStop P ty Wg e An (MRun P ty Wg e An (F + 1)) S sn) _ _ _
  have hqp : q.ptr = .pointer (some ⟨q.b, 0, none⟩) := rfl
  rw [hqp, enter1 _ Try.func28 rfl Try.ntmps28 (by decide)]
  have a0 : Addr.add ⟨q.b, 0, none⟩ 0 = ⟨q.b, 0, none⟩ := add_none _ _ _
  have a1 : Addr.add ⟨q.b, 0, none⟩ 1 = ⟨q.b, 1, none⟩ := by rw [add_none, Nat.zero_add]
  have a5 : Addr.add ⟨q.b, 0, none⟩ 5 = ⟨q.b, 5, none⟩ := by rw [add_none, Nat.zero_add]
  have c0 := hq.known.c0
  refine t_region ?_
  iterate 6 (first
    | (refine t_skG rfl (by decide) rfl ?_)
    | (refine t_skU rfl (by decide) rfl ?_)
    | (first | refine t_rdG (by decide) rfl (by decide) rfl (fun K hK => ?_) | refine t_rd (by decide) (fun K hK => ?_)
       simp only [Xa, Xb, Xc, Xd, Xe, Xf, Xg, Xh, Xi, Xj, Xk, Xl, Xm, Xn, Xo, Xp, Xq, Xr, Xs, Xt, Xu, Xv, Xw, Xx, Xy, Xz, XA, XB, XD, XE, XF, XG, XH, XI, ev, XJ, upd, args1, args2, args3, args4, XK, XL, XM, extL, XN, XO, XP, XQ, XR, XT, XU, XV, XW, XX, XY, XZ, X0, X1, X2, X3, Addr.add, ↓reduceIte, Nat.reduceLT, Nat.reduceEqDiff, Nat.zero_add, Nat.reduceAdd, Option.map_some, X4, List.getElem_toArray, List.getElem_cons_zero, List.getElem_cons_succ, x_nil, nilL_some, Option.isSome_some, a0, c0]
       refine hK _ ?_
       clear hK K))
  cases r with
  | nil =>
    refine t_here fun rest ho hgo => Tree.stop fun O0 w0 r0 => .inr (.inl ⟨rfl, rfl, j, q.c, [], (⟨⟨#[]⟩, 0, false, ⟨#[]⟩⟩ : Ent).v, hj, fun w => st_recv ho (by decide) Try.underlying64 (by simp only [Xa, Xb, Xc, Xd, Xe, Xf, Xg, Xh, Xi, Xj, Xk, Xl, Xm, Xn, Xo, Xp, Xq, Xr, Xs, Xt, Xu, Xv, Xw, Xx, Xy, Xz, XA, XB, XD, XE, XF, XG, XH, XI, ev, XJ, upd, args1, args2, args3, args4, XK, XL, XM, extL, XN, XO, XP, XQ, XR, XT, XU, XV, XW, XX, XY, XZ, X0, X1, X2, X3, Addr.add, ↓reduceIte, Nat.reduceLT, Nat.reduceEqDiff, Nat.zero_add, Nat.reduceAdd, Option.map_some, X4, List.getElem_toArray, List.getElem_cons_zero, List.getElem_cons_succ]) (zero37 _), fun O1 w1 r1 => ?_⟩)
    simp only [RecvNext]
    rw [served_G, Fr_finish, ho]
    show Tree P x0 (MStop P ty Wg e An (MRun P ty Wg e An F) S sn) _ _ _
    refine hgo (fun g => Tree P x0 (MStop P ty Wg e An (MRun P ty Wg e An F) S sn) O1 g w1) _ _ ?_
    have hq1 := (hq.rely r0).rely r1
    have ex0 : extL 0 (.tuple #[(⟨⟨#[]⟩, 0, false, ⟨#[]⟩⟩ : Ent).v, .bool false]) = some (.value (⟨⟨#[]⟩, 0, false, ⟨#[]⟩⟩ : Ent).v) := rfl
    have ex1 : extL 1 (.tuple #[(⟨⟨#[]⟩, 0, false, ⟨#[]⟩⟩ : Ent).v, .bool false]) = some (.value (.bool false)) := rfl
    refine (?_ : InReg P x0 _ O1 w1 _ _ _ _ _ _ _ _ _)
    simp only [Option.bind_some, XJ]
    iterate 5 (first
      | (refine t_skG rfl (by decide) rfl ?_)
      | (refine t_skU rfl (by decide) rfl ?_)
      | (first | refine t_rdG (by decide) rfl (by decide) rfl (fun K hK => ?_) | refine t_rd (by decide) (fun K hK => ?_)
         simp only [Xa, Xb, Xc, Xd, Xe, Xf, Xg, Xh, Xi, Xj, Xk, Xl, Xm, Xn, Xo, Xp, Xq, Xr, Xs, Xt, Xu, Xv, Xw, Xx, Xy, Xz, XA, XB, XD, XE, XF, XG, XH, XI, ev, XJ, upd, args1, args2, args3, args4, XK, XL, XM, extL, XN, XO, XP, XQ, XR, XT, XU, XV, XW, XX, XY, XZ, X0, X1, X2, X3, Addr.add, ↓reduceIte, Nat.reduceLT, Nat.reduceEqDiff, Nat.zero_add, Nat.reduceAdd, Option.map_some, X4, List.getElem_toArray, List.getElem_cons_zero, List.getElem_cons_succ, x_nil, nilL_some, Option.isSome_some, a1, ex0, ex1]
         refine hK _ ?_
         clear hK K))
    refine t_store (sz := 4) (m := q.b) (off := 1) [.string (⟨⟨#[]⟩, 0, false, ⟨#[]⟩⟩ : Ent).key, .int .i64 (⟨⟨#[]⟩, 0, false, ⟨#[]⟩⟩ : Ent).seq, .bool (⟨⟨#[]⟩, 0, false, ⟨#[]⟩⟩ : Ent).del, .string (⟨⟨#[]⟩, 0, false, ⟨#[]⟩⟩ : Ent).val] (by decide) rfl (by simp only [Xa, Xb, Xc, Xd, Xe, Xf, Xg, Xh, Xi, Xj, Xk, Xl, Xm, Xn, Xo, Xp, Xq, Xr, Xs, Xt, Xu, Xv, Xw, Xx, Xy, Xz, XA, XB, XD, XE, XF, XG, XH, XI, ev, XJ, upd, args1, args2, args3, args4, XK, XL, XM, extL, XN, XO, XP, XQ, XR, XT, XU, XV, XW, XX, XY, XZ, X0, X1, X2, X3, Addr.add, ↓reduceIte, Nat.reduceLT, Nat.reduceEqDiff, Nat.zero_add, Nat.reduceAdd, Option.map_some, X4, List.getElem_toArray, List.getElem_cons_zero, List.getElem_cons_succ, a1]) (by simp only [Xa, Xb, Xc, Xd, Xe, Xf, Xg, Xh, Xi, Xj, Xk, Xl, Xm, Xn, Xo, Xp, Xq, Xr, Xs, Xt, Xu, Xv, Xw, Xx, Xy, Xz, XA, XB, XD, XE, XF, XG, XH, XI, ev, XJ, upd, args1, args2, args3, args4, XK, XL, XM, extL, XN, XO, XP, XQ, XR, XT, XU, XV, XW, XX, XY, XZ, X0, X1, X2, X3, Addr.add, ↓reduceIte, Nat.reduceLT, Nat.reduceEqDiff, Nat.zero_add, Nat.reduceAdd, Option.map_some, X4, List.getElem_toArray, List.getElem_cons_zero, List.getElem_cons_succ]; rfl) rfl (by simp [one?]) (.inr ⟨hq1.tag, rfl, Nat.zero_lt_succ 0⟩) hq1.cell (Nat.le_succ 5) ?_
    intro O2 w2 w3 r2 hm3 ht3 hb3
    have ht3' : O2.tag q.b = .front := ht3.trans hq1.tag
    have f3 : FrOK O2 w3 ⟨q.b, q.c, (⟨⟨#[]⟩, 0, false, ⟨#[]⟩⟩ : Ent), q.more⟩ := ⟨ht3', hb3⟩
    iterate 2 (first
      | (refine t_skG rfl (by decide) rfl ?_)
      | (refine t_skU rfl (by decide) rfl ?_)
      | (first | refine t_rdG (by decide) rfl (by decide) rfl (fun K hK => ?_) | refine t_rd (by decide) (fun K hK => ?_)
         simp only [Xa, Xb, Xc, Xd, Xe, Xf, Xg, Xh, Xi, Xj, Xk, Xl, Xm, Xn, Xo, Xp, Xq, Xr, Xs, Xt, Xu, Xv, Xw, Xx, Xy, Xz, XA, XB, XD, XE, XF, XG, XH, XI, ev, XJ, upd, args1, args2, args3, args4, XK, XL, XM, extL, XN, XO, XP, XQ, XR, XT, XU, XV, XW, XX, XY, XZ, X0, X1, X2, X3, Addr.add, ↓reduceIte, Nat.reduceLT, Nat.reduceEqDiff, Nat.zero_add, Nat.reduceAdd, Option.map_some, X4, List.getElem_toArray, List.getElem_cons_zero, List.getElem_cons_succ, x_nil, nilL_some, Option.isSome_some, a5]
         refine hK _ ?_
         clear hK K))
    refine t_store (sz := 1) (m := q.b) (off := 5) [.bool false] (by decide) rfl (by simp only [Xa, Xb, Xc, Xd, Xe, Xf, Xg, Xh, Xi, Xj, Xk, Xl, Xm, Xn, Xo, Xp, Xq, Xr, Xs, Xt, Xu, Xv, Xw, Xx, Xy, Xz, XA, XB, XD, XE, XF, XG, XH, XI, ev, XJ, upd, args1, args2, args3, args4, XK, XL, XM, extL, XN, XO, XP, XQ, XR, XT, XU, XV, XW, XX, XY, XZ, X0, X1, X2, X3, Addr.add, ↓reduceIte, Nat.reduceLT, Nat.reduceEqDiff, Nat.zero_add, Nat.reduceAdd, Option.map_some, X4, List.getElem_toArray, List.getElem_cons_zero, List.getElem_cons_succ, a5]) (by simp only [Xa, Xb, Xc, Xd, Xe, Xf, Xg, Xh, Xi, Xj, Xk, Xl, Xm, Xn, Xo, Xp, Xq, Xr, Xs, Xt, Xu, Xv, Xw, Xx, Xy, Xz, XA, XB, XD, XE, XF, XG, XH, XI, ev, XJ, upd, args1, args2, args3, args4, XK, XL, XM, extL, XN, XO, XP, XQ, XR, XT, XU, XV, XW, XX, XY, XZ, X0, X1, X2, X3, Addr.add, ↓reduceIte, Nat.reduceLT, Nat.reduceEqDiff, Nat.zero_add, Nat.reduceAdd, Option.map_some, X4, List.getElem_toArray, List.getElem_cons_zero, List.getElem_cons_succ]; rfl) rfl (by simp [one?]) (.inr ⟨ht3', rfl, Nat.zero_lt_succ 4⟩) hb3 (Nat.le_refl 6) ?_
    intro O4 w4 w5 r4 hm5 ht5 hb5
    have ht5' : O4.tag q.b = .front := ht5.trans ht3'
    have f5 : FrOK O4 w5 ⟨q.b, q.c, (⟨⟨#[]⟩, 0, false, ⟨#[]⟩⟩ : Ent), false⟩ := ⟨ht5', hb5⟩
    refine t_done ?_
    refine t_end ?_
    refine t_leave0 rfl Try.func28 Try.results28 ?_
    have hns : O2.tag q.b ≠ .sync := by rw [ht3']; simp
    have hns4 : O4.tag q.b ≠ .sync := by rw [ht5']; simp
    exact h O4 w5 ((((((r0.trans r1).trans r2).relM q.b).trans (hm3.relM hns)).trans (r4.relM q.b)).trans (hm5.relM hns4)) f5
  | cons a r' =>
    refine t_here fun rest ho hgo => Tree.stop fun O0 w0 r0 => .inr (.inl ⟨rfl, rfl, j, q.c, a.v :: r'.map Ent.v, (⟨⟨#[]⟩, 0, false, ⟨#[]⟩⟩ : Ent).v, hj, fun w => st_recv ho (by decide) Try.underlying64 (by simp only [Xa, Xb, Xc, Xd, Xe, Xf, Xg, Xh, Xi, Xj, Xk, Xl, Xm, Xn, Xo, Xp, Xq, Xr, Xs, Xt, Xu, Xv, Xw, Xx, Xy, Xz, XA, XB, XD, XE, XF, XG, XH, XI, ev, XJ, upd, args1, args2, args3, args4, XK, XL, XM, extL, XN, XO, XP, XQ, XR, XT, XU, XV, XW, XX, XY, XZ, X0, X1, X2, X3, Addr.add, ↓reduceIte, Nat.reduceLT, Nat.reduceEqDiff, Nat.zero_add, Nat.reduceAdd, Option.map_some, X4, List.getElem_toArray, List.getElem_cons_zero, List.getElem_cons_succ]) (zero37 _), fun O1 w1 r1 => ?_⟩)
    simp only [RecvNext]
    rw [served_G, Fr_finish, ho]
    show Tree P x0 (MStop P ty Wg e An (MRun P ty Wg e An F) S (sn.set j (q.c, r'.map Ent.v))) _ _ _
    refine hgo (fun g => Tree P x0 (MStop P ty Wg e An (MRun P ty Wg e An F) S (sn.set j (q.c, r'.map Ent.v))) O1 g w1) _ _ ?_
    have hq1 := (hq.rely r0).rely r1
    have ex0 : extL 0 (.tuple #[a.v, .bool true]) = some (.value a.v) := rfl
    have ex1 : extL 1 (.tuple #[a.v, .bool true]) = some (.value (.bool true)) := rfl
    refine (?_ : InReg P x0 _ O1 w1 _ _ _ _ _ _ _ _ _)
    simp only [Option.bind_some, XJ]
    iterate 5 (first
      | (refine t_skG rfl (by decide) rfl ?_)
      | (refine t_skU rfl (by decide) rfl ?_)
      | (first | refine t_rdG (by decide) rfl (by decide) rfl (fun K hK => ?_) | refine t_rd (by decide) (fun K hK => ?_)
         simp only [Xa, Xb, Xc, Xd, Xe, Xf, Xg, Xh, Xi, Xj, Xk, Xl, Xm, Xn, Xo, Xp, Xq, Xr, Xs, Xt, Xu, Xv, Xw, Xx, Xy, Xz, XA, XB, XD, XE, XF, XG, XH, XI, ev, XJ, upd, args1, args2, args3, args4, XK, XL, XM, extL, XN, XO, XP, XQ, XR, XT, XU, XV, XW, XX, XY, XZ, X0, X1, X2, X3, Addr.add, ↓reduceIte, Nat.reduceLT, Nat.reduceEqDiff, Nat.zero_add, Nat.reduceAdd, Option.map_some, X4, List.getElem_toArray, List.getElem_cons_zero, List.getElem_cons_succ, x_nil, nilL_some, Option.isSome_some, a1, ex0, ex1]
         refine hK _ ?_
         clear hK K))
    refine t_store (sz := 4) (m := q.b) (off := 1) [.string a.key, .int .i64 a.seq, .bool a.del, .string a.val] (by decide) rfl (by simp only [Xa, Xb, Xc, Xd, Xe, Xf, Xg, Xh, Xi, Xj, Xk, Xl, Xm, Xn, Xo, Xp, Xq, Xr, Xs, Xt, Xu, Xv, Xw, Xx, Xy, Xz, XA, XB, XD, XE, XF, XG, XH, XI, ev, XJ, upd, args1, args2, args3, args4, XK, XL, XM, extL, XN, XO, XP, XQ, XR, XT, XU, XV, XW, XX, XY, XZ, X0, X1, X2, X3, Addr.add, ↓reduceIte, Nat.reduceLT, Nat.reduceEqDiff, Nat.zero_add, Nat.reduceAdd, Option.map_some, X4, List.getElem_toArray, List.getElem_cons_zero, List.getElem_cons_succ, a1]) (by simp only [Xa, Xb, Xc, Xd, Xe, Xf, Xg, Xh, Xi, Xj, Xk, Xl, Xm, Xn, Xo, Xp, Xq, Xr, Xs, Xt, Xu, Xv, Xw, Xx, Xy, Xz, XA, XB, XD, XE, XF, XG, XH, XI, ev, XJ, upd, args1, args2, args3, args4, XK, XL, XM, extL, XN, XO, XP, XQ, XR, XT, XU, XV, XW, XX, XY, XZ, X0, X1, X2, X3, Addr.add, ↓reduceIte, Nat.reduceLT, Nat.reduceEqDiff, Nat.zero_add, Nat.reduceAdd, Option.map_some, X4, List.getElem_toArray, List.getElem_cons_zero, List.getElem_cons_succ]; rfl) rfl (by simp [one?]) (.inr ⟨hq1.tag, rfl, Nat.zero_lt_succ 0⟩) hq1.cell (Nat.le_succ 5) ?_
    intro O2 w2 w3 r2 hm3 ht3 hb3
    have ht3' : O2.tag q.b = .front := ht3.trans hq1.tag
    have f3 : FrOK O2 w3 ⟨q.b, q.c, a, q.more⟩ := ⟨ht3', hb3⟩
    iterate 2 (first
      | (refine t_skG rfl (by decide) rfl ?_)
      | (refine t_skU rfl (by decide) rfl ?_)
      | (first | refine t_rdG (by decide) rfl (by decide) rfl (fun K hK => ?_) | refine t_rd (by decide) (fun K hK => ?_)
         simp only [Xa, Xb, Xc, Xd, Xe, Xf, Xg, Xh, Xi, Xj, Xk, Xl, Xm, Xn, Xo, Xp, Xq, Xr, Xs, Xt, Xu, Xv, Xw, Xx, Xy, Xz, XA, XB, XD, XE, XF, XG, XH, XI, ev, XJ, upd, args1, args2, args3, args4, XK, XL, XM, extL, XN, XO, XP, XQ, XR, XT, XU, XV, XW, XX, XY, XZ, X0, X1, X2, X3, Addr.add, ↓reduceIte, Nat.reduceLT, Nat.reduceEqDiff, Nat.zero_add, Nat.reduceAdd, Option.map_some, X4, List.getElem_toArray, List.getElem_cons_zero, List.getElem_cons_succ, x_nil, nilL_some, Option.isSome_some, a5]
         refine hK _ ?_
         clear hK K))
    refine t_store (sz := 1) (m := q.b) (off := 5) [.bool true] (by decide) rfl (by simp only [Xa, Xb, Xc, Xd, Xe, Xf, Xg, Xh, Xi, Xj, Xk, Xl, Xm, Xn, Xo, Xp, Xq, Xr, Xs, Xt, Xu, Xv, Xw, Xx, Xy, Xz, XA, XB, XD, XE, XF, XG, XH, XI, ev, XJ, upd, args1, args2, args3, args4, XK, XL, XM, extL, XN, XO, XP, XQ, XR, XT, XU, XV, XW, XX, XY, XZ, X0, X1, X2, X3, Addr.add, ↓reduceIte, Nat.reduceLT, Nat.reduceEqDiff, Nat.zero_add, Nat.reduceAdd, Option.map_some, X4, List.getElem_toArray, List.getElem_cons_zero, List.getElem_cons_succ, a5]) (by simp only [Xa, Xb, Xc, Xd, Xe, Xf, Xg, Xh, Xi, Xj, Xk, Xl, Xm, Xn, Xo, Xp, Xq, Xr, Xs, Xt, Xu, Xv, Xw, Xx, Xy, Xz, XA, XB, XD, XE, XF, XG, XH, XI, ev, XJ, upd, args1, args2, args3, args4, XK, XL, XM, extL, XN, XO, XP, XQ, XR, XT, XU, XV, XW, XX, XY, XZ, X0, X1, X2, X3, Addr.add, ↓reduceIte, Nat.reduceLT, Nat.reduceEqDiff, Nat.zero_add, Nat.reduceAdd, Option.map_some, X4, List.getElem_toArray, List.getElem_cons_zero, List.getElem_cons_succ]; rfl) rfl (by simp [one?]) (.inr ⟨ht3', rfl, Nat.zero_lt_succ 4⟩) hb3 (Nat.le_refl 6) ?_
    intro O4 w4 w5 r4 hm5 ht5 hb5
    have ht5' : O4.tag q.b = .front := ht5.trans ht3'
    have f5 : FrOK O4 w5 ⟨q.b, q.c, a, true⟩ := ⟨ht5', hb5⟩
    refine t_done ?_
    refine t_end ?_
    refine t_leave0 rfl Try.func28 Try.results28 ?_
    have hns : O2.tag q.b ≠ .sync := by rw [ht3']; simp
    have hns4 : O4.tag q.b ≠ .sync := by rw [ht5']; simp
    exact h O4 w5 ((((((r0.trans r1).trans r2).relM q.b).trans (hm3.relM hns)).trans (r4.relM q.b)).trans (hm5.relM hns4)) f5
end Go.Proofs.Ytdajdembeacefaa.M

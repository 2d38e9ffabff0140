/-
  Contract of 'least'.
-/
import Derived.Test.YtdajdembeacefaaX
set_option linter.unusedSimpArgs false
set_option linter.unusedVariables false
namespace Go.Proofs.Ytdajdembeacefaa.M
open Go.Conc

theorem bin_eqlNil {L : Addr → Option Value} (x y : Operand) (a : Option Addr) : binL L .eql 63 x y (.pointer a) (.pointer none) = some (.value (.bool a.isNone)) := by
  simp only [binL, eqGuard, binOp, runL_bind, runL_pure, Op.equal, Op.maxDepth]
  rw [show (10000 : Nat) = 9999 + 1 from rfl, Op.equalIn]
  cases a with
  | none => simp [runL_bind, runL_pure, runL_underlying, show P.underlying 63 = some (.pointer 66) from rfl]
  | some a => simp [runL_bind, runL_pure, runL_underlying, show P.underlying 63 = some (.pointer 66) from rfl]

/-- A front: its block, its channel, its entry, whether there is one. -/
structure Fro where
  b : Nat
  c : Nat
  e : Ent
  more : Bool
def Fro.cells (q : Fro) : Array Value := #[.chan (some q.c), .string q.e.key, .int .i64 q.e.seq, .bool q.e.del, .string q.e.val, .bool q.more]
def Fro.ptr (q : Fro) : Value := .pointer (some ⟨q.b, 0, none⟩)
def better (q : Fro) : Option (Nat × Fro) → Bool
  | none => true
  | some (_, p) => bef q.e p.e
def bestStep (i : Nat) (q : Fro) (best : Option (Nat × Fro)) : Option (Nat × Fro) := if q.more && better q best then some (i, q) else best
def bestOf : List Fro → Nat → Option (Nat × Fro) → Option (Nat × Fro)
  | [], _, best => best
  | q :: l, i, best => bestOf l (i + 1) (bestStep i q best)
theorem bestOf_snoc : ∀ (l : List Fro) (q : Fro) (i : Nat) (best : Option (Nat × Fro)), bestOf (l ++ [q]) i best = bestStep (i + l.length) q (bestOf l i best)
  | [], q, i, best => rfl
  | p :: l, q, i, best => by simp only [List.cons_append, bestOf, bestOf_snoc l, List.length_cons]; congr 1; omega
theorem bestOf_mem : ∀ (l : List Fro) (i : Nat) (best : Option (Nat × Fro)) (j : Nat) (q : Fro), bestOf l i best = some (j, q) → best = some (j, q) ∨ (i ≤ j ∧ l[j - i]? = some q ∧ q.more = true)
  | [], i, best, j, q, h => .inl h
  | p :: l, i, best, j, q, h => by
    rcases bestOf_mem l (i + 1) _ j q h with h1 | ⟨h1, h2, h3⟩
    · unfold bestStep at h1
      split at h1
      · rename_i hc
        cases h1
        simp at hc
        exact .inr ⟨Nat.le_refl _, by simp, hc.1⟩
      · exact .inl h1
    · refine .inr ⟨by omega, ?_, h3⟩
      rw [show j - i = (j - (i + 1)) + 1 by omega]; simpa using h2
/-- A front is known. -/
structure KFro (L : Addr → Option Value) (q : Fro) : Prop where
  c0 : L ⟨q.b, 0, none⟩ = some (.chan (some q.c))
  c1 : L ⟨q.b, 1, none⟩ = some (.string q.e.key)
  c2 : L ⟨q.b, 2, none⟩ = some (.int .i64 q.e.seq)
  c3 : L ⟨q.b, 3, none⟩ = some (.bool q.e.del)
  c4 : L ⟨q.b, 4, none⟩ = some (.string q.e.val)
  c5 : L ⟨q.b, 5, none⟩ = some (.bool q.more)
theorem KFro.whole {L : Addr → Option Value} {q : Fro} (h : KFro L q) : loadN L 4 (.pointer (some ⟨q.b, 1, none⟩)) = some (.value q.e.v) :=
  loadN4 (by rw [add_none]; exact h.c1) (by rw [add_none]; exact h.c2) (by rw [add_none]; exact h.c3) (by rw [add_none]; exact h.c4)
theorem KFro.mono {L L' : Addr → Option Value} {q : Fro} (h : KFro L q) (hL : ∀ a v, L a = some v → L' a = some v) : KFro L' q := ⟨hL _ _ h.c0, hL _ _ h.c1, hL _ _ h.c2, hL _ _ h.c3, hL _ _ h.c4, hL _ _ h.c5⟩
def SlF (L : Addr → Option Value) (v : Value) (l : List Fro) : Prop := Sl 1 L v (l.map fun q => #[q.ptr]) ∧ ∀ q ∈ l, KFro L q
theorem SlF.len {L : Addr → Option Value} {v : Value} {l : List Fro} (h : SlF L v l) : lenL v = some (.value (.int .i64 l.length)) := by
  have := h.1.len; rwa [List.length_map] at this
theorem SlF.rely {x : Th} {O O1 : Gh} {w w1 : World} {v : Value} {l : List Fro} (h : SlF (ldOf x O w) v l) (r : Rel x O w O1 w1) : SlF (ldOf x O1 w1) v l := ⟨h.1.rely r, fun q hq => (h.2 q hq).mono fun _ _ h => ldOf_rely r h⟩
theorem SlF.at {L : Addr → Option Value} {v : Value} {l : List Fro} (h : SlF L v l) {i : Nat} {q : Fro} (hi : l[i]? = some q) : ∃ A, idxL 1 v (.int .i64 i) = some (.value (.pointer (some A))) ∧ L A = some (.pointer (some ⟨q.b, 0, none⟩)) := by
  have hlt := (List.getElem?_eq_some_iff.1 hi).1
  rcases h.1 with ⟨h, _⟩ | ⟨b, o, c, rfl, hc, h⟩
  · have : l = [] := by simpa using h
    subst this; simp at hi
  · obtain ⟨_, h⟩ := h i #[q.ptr] (by rw [List.getElem?_map, hi]; rfl)
    have h0 := h 0 (by omega)
    refine ⟨⟨b, o + i * 1, none⟩, ?_, by simpa [Fro.ptr] using h0⟩
    rw [List.length_map, idxL_some 1 _ _ _ i _ hlt, add_none]
def bestV : Option (Nat × Fro) → Value
  | none => .pointer none
  | some (_, q) => .pointer (some ⟨q.b, 0, none⟩)

set_option maxHeartbeats 8000000 in
theorem least_M {x : Th} {St : Gh → Goroutine → World → Prop} (l : List Fro) (v : Value) (O : Gh) (w : World) (c : Frame) (cs : List Frame) (hv : SlF (ldOf x O w) v l) (hlen : l.length < 1000000)
    (h : ∀ O' w', Rel x O w O' w' → Tree P x St O' (G (c.finish (bestV (bestOf l 0 none))) cs) w') :
    Tree P x St O (G (Frame.enter P 29 #[v] .normal) (c :: cs)) w := by
  rw [enter1 _ Try.func29 rfl Try.ntmps29 (by decide)]
  have hl := hv.len
  refine t_seq ?_
  refine t_region ?_
  repeat (first
    | (refine t_skG rfl (by decide) rfl ?_)
    | (refine t_skU rfl (by decide) rfl ?_)
    | (first | refine t_rdG (by decide) rfl (by decide) rfl (fun K hK => ?_) | refine t_rd (by decide) (fun K hK => ?_)
       simp only [Xa, Xb, Xc, Xd, Xe, Xf, Xg, Xh, Xi, Xj, Xk, Xl, Xm, Xn, Xo, Xp, Xq, Xr, Xs, Xt, Xu, Xv, Xw, Xx, Xy, Xz, XA, XB, XD, XE, XF, XG, XH, XI, ev, XJ, upd, args1, args2, args3, args4, XK, XL, XM, extL, XN, XO, XP, XQ, XR, XT, XU, XV, XW, XX, XY, XZ, X0, X1, X2, X3, Addr.add, ↓reduceIte, Nat.reduceLT, Nat.reduceEqDiff, Nat.zero_add, Nat.reduceAdd, Option.map_some, X4, List.getElem_toArray, List.getElem_cons_zero, List.getElem_cons_succ]
       refine hK _ ?_
       clear hK K))
  refine t_done ?_
  refine t_seq ?_
  refine t_region ?_
  repeat (first
    | (refine t_skG rfl (by decide) rfl ?_)
    | (refine t_skU rfl (by decide) rfl ?_)
    | (first | refine t_rdG (by decide) rfl (by decide) rfl (fun K hK => ?_) | refine t_rd (by decide) (fun K hK => ?_)
       simp only [Xa, Xb, Xc, Xd, Xe, Xf, Xg, Xh, Xi, Xj, Xk, Xl, Xm, Xn, Xo, Xp, Xq, Xr, Xs, Xt, Xu, Xv, Xw, Xx, Xy, Xz, XA, XB, XD, XE, XF, XG, XH, XI, ev, XJ, upd, args1, args2, args3, args4, XK, XL, XM, extL, XN, XO, XP, XQ, XR, XT, XU, XV, XW, XX, XY, XZ, X0, X1, X2, X3, Addr.add, ↓reduceIte, Nat.reduceLT, Nat.reduceEqDiff, Nat.zero_add, Nat.reduceAdd, Option.map_some, X4, List.getElem_toArray, List.getElem_cons_zero, List.getElem_cons_succ]
       refine hK _ ?_
       clear hK K))
  refine t_done ?_
  refine t_seq ?_
  refine t_seq ?_
  refine t_region ?_
  repeat (first
    | (refine t_skG rfl (by decide) rfl ?_)
    | (refine t_skU rfl (by decide) rfl ?_)
    | (first | refine t_rdG (by decide) rfl (by decide) rfl (fun K hK => ?_) | refine t_rd (by decide) (fun K hK => ?_)
       simp only [Xa, Xb, Xc, Xd, Xe, Xf, Xg, Xh, Xi, Xj, Xk, Xl, Xm, Xn, Xo, Xp, Xq, Xr, Xs, Xt, Xu, Xv, Xw, Xx, Xy, Xz, XA, XB, XD, XE, XF, XG, XH, XI, ev, XJ, upd, args1, args2, args3, args4, XK, XL, XM, extL, XN, XO, XP, XQ, XR, XT, XU, XV, XW, XX, XY, XZ, X0, X1, X2, X3, Addr.add, ↓reduceIte, Nat.reduceLT, Nat.reduceEqDiff, Nat.zero_add, Nat.reduceAdd, Option.map_some, X4, List.getElem_toArray, List.getElem_cons_zero, List.getElem_cons_succ, hl]
       refine hK _ ?_
       clear hK K))
  refine t_done ?_
  refine t_block ?_
  refine t_loop ?_
  refine t_while (fun m f O' w' => Rel x O w O' w' ∧ f 6 = v ∧ f 7 = .int .i64 (l.length : Int) ∧ ∃ j : Nat, f 8 = .int .i64 (j : Int) ∧ f 3 = bestV (bestOf (l.take j) 0 none) ∧ m = l.length - j ∧ j ≤ l.length)
    l.length ⟨Rel.refl x O w, rfl, rfl, 0, rfl, rfl, rfl, Nat.zero_le _⟩ ?_
  rintro m f O1 w1 ⟨r1, hf6, hf7, j, hf8, hf3, hm, hj⟩ ih
  have hv1 := hv.rely r1
  have hw2 : IntKind.i64.wrap ((j : Int) + 1) = ((j + 1 : Nat) : Int) := by rw [wrap64] <;> omega
  refine t_seq ?_
  refine t_region ?_
  by_cases hlt : j < l.length
  · have hd : decide ((j : Int) < (l.length : Int)) = true := by simp; omega
    repeat (first
      | (refine t_skG rfl (by decide) rfl ?_)
      | (refine t_skU rfl (by decide) rfl ?_)
      | (first | refine t_rdG (by decide) rfl (by decide) rfl (fun K hK => ?_) | refine t_rd (by decide) (fun K hK => ?_)
         simp only [Xa, Xb, Xc, Xd, Xe, Xf, Xg, Xh, Xi, Xj, Xk, Xl, Xm, Xn, Xo, Xp, Xq, Xr, Xs, Xt, Xu, Xv, Xw, Xx, Xy, Xz, XA, XB, XD, XE, XF, XG, XH, XI, ev, XJ, upd, args1, args2, args3, args4, XK, XL, XM, extL, XN, XO, XP, XQ, XR, XT, XU, XV, XW, XX, XY, XZ, X0, X1, X2, X3, Addr.add, ↓reduceIte, Nat.reduceLT, Nat.reduceEqDiff, Nat.zero_add, Nat.reduceAdd, Option.map_some, X4, List.getElem_toArray, List.getElem_cons_zero, List.getElem_cons_succ, hf7, hf8, hd]
         refine hK _ ?_
         clear hK K))
    refine t_done ?_
    refine t_seq ?_
    refine t_true rfl ?_
    refine t_skip ?_
    refine t_seq ?_
    refine t_block ?_
    obtain ⟨A, iA, lA⟩ := hv1.at (List.getElem?_eq_getElem hlt)
    have kq := hv1.2 l[j] (List.getElem_mem hlt)
    have c5 := kq.c5
    have wq := kq.whole
    refine t_seq ?_
    refine t_region ?_
    repeat (first
      | (refine t_skG rfl (by decide) rfl ?_)
      | (refine t_skU rfl (by decide) rfl ?_)
      | (first | refine t_rdG (by decide) rfl (by decide) rfl (fun K hK => ?_) | refine t_rd (by decide) (fun K hK => ?_)
         simp only [Xa, Xb, Xc, Xd, Xe, Xf, Xg, Xh, Xi, Xj, Xk, Xl, Xm, Xn, Xo, Xp, Xq, Xr, Xs, Xt, Xu, Xv, Xw, Xx, Xy, Xz, XA, XB, XD, XE, XF, XG, XH, XI, ev, XJ, upd, args1, args2, args3, args4, XK, XL, XM, extL, XN, XO, XP, XQ, XR, XT, XU, XV, XW, XX, XY, XZ, X0, X1, X2, X3, Addr.add, ↓reduceIte, Nat.reduceLT, Nat.reduceEqDiff, Nat.zero_add, Nat.reduceAdd, Option.map_some, X4, List.getElem_toArray, List.getElem_cons_zero, List.getElem_cons_succ, hf6, hf8, iA, lA]
         refine hK _ ?_
         clear hK K))
    refine t_done ?_
    refine t_seq ?_
    have etk : l.take (j + 1) = l.take j ++ [l[j]] := by rw [List.take_add_one, List.getElem?_eq_getElem hlt]; rfl
    have enx : bestOf (l.take (j + 1)) 0 none = bestStep j l[j] (bestOf (l.take j) 0 none) := by
      rw [etk, bestOf_snoc]; simp [Nat.min_eq_left (Nat.le_of_lt hlt)]
    refine t_drawn rfl (by decide) ?_
    cases hmo : l[j].more with
    | false =>
      rw [hmo] at c5
      repeat (first
        | (refine d_skG rfl (by decide) rfl ?_)
        | (refine d_skU rfl (by decide) rfl ?_)
        | (first | refine d_rdG rfl (by decide) rfl (fun K hK => ?_) | refine d_rd (fun K hK => ?_)
           simp only [Xa, Xb, Xc, Xd, Xe, Xf, Xg, Xh, Xi, Xj, Xk, Xl, Xm, Xn, Xo, Xp, Xq, Xr, Xs, Xt, Xu, Xv, Xw, Xx, Xy, Xz, XA, XB, XD, XE, XF, XG, XH, XI, ev, XJ, upd, args1, args2, args3, args4, XK, XL, XM, extL, XN, XO, XP, XQ, XR, XT, XU, XV, XW, XX, XY, XZ, X0, X1, X2, X3, Addr.add, ↓reduceIte, Nat.reduceLT, Nat.reduceEqDiff, Nat.zero_add, Nat.reduceAdd, Option.map_some, X4, List.getElem_toArray, List.getElem_cons_zero, List.getElem_cons_succ, hf3, x_nil, nilL_some, Option.isSome_some, c5]
           refine hK _ ?_
           clear hK K))
      refine d_done ?_
      intro O2 w2 r2
      refine t_false rfl ?_
      refine t_skip ?_
      refine t_inBlock ?_
      refine t_region ?_
      repeat (first
        | (refine t_skG rfl (by decide) rfl ?_)
        | (refine t_skU rfl (by decide) rfl ?_)
        | (first | refine t_rdG (by decide) rfl (by decide) rfl (fun K hK => ?_) | refine t_rd (by decide) (fun K hK => ?_)
           simp only [Xa, Xb, Xc, Xd, Xe, Xf, Xg, Xh, Xi, Xj, Xk, Xl, Xm, Xn, Xo, Xp, Xq, Xr, Xs, Xt, Xu, Xv, Xw, Xx, Xy, Xz, XA, XB, XD, XE, XF, XG, XH, XI, ev, XJ, upd, args1, args2, args3, args4, XK, XL, XM, extL, XN, XO, XP, XQ, XR, XT, XU, XV, XW, XX, XY, XZ, X0, X1, X2, X3, Addr.add, ↓reduceIte, Nat.reduceLT, Nat.reduceEqDiff, Nat.zero_add, Nat.reduceAdd, Option.map_some, X4, List.getElem_toArray, List.getElem_cons_zero, List.getElem_cons_succ, hf8, hw2]
           refine hK _ ?_
           clear hK K))
      refine t_done ?_
      refine t_inLoop ?_
      refine ih (l.length - (j + 1)) _ O2 w2 (by omega) ⟨r1.trans r2, hf6, hf7, j + 1, rfl, ?_, rfl, by omega⟩
      rw [enx]; unfold bestStep; rw [hmo, Bool.false_and, if_neg (by simp)]; exact hf3
    | true =>
      rw [hmo] at c5
      cases hb : bestOf (l.take j) 0 none with
      | none =>
        rw [hb] at hf3
        have hf3' : f 3 = .pointer none := hf3
        repeat (first
          | (refine d_skG rfl (by decide) rfl ?_)
          | (refine d_skU rfl (by decide) rfl ?_)
          | (first | refine d_rdG rfl (by decide) rfl (fun K hK => ?_) | refine d_rd (fun K hK => ?_)
             simp only [Xa, Xb, Xc, Xd, Xe, Xf, Xg, Xh, Xi, Xj, Xk, Xl, Xm, Xn, Xo, Xp, Xq, Xr, Xs, Xt, Xu, Xv, Xw, Xx, Xy, Xz, XA, XB, XD, XE, XF, XG, XH, XI, ev, XJ, upd, args1, args2, args3, args4, XK, XL, XM, extL, XN, XO, XP, XQ, XR, XT, XU, XV, XW, XX, XY, XZ, X0, X1, X2, X3, Addr.add, ↓reduceIte, Nat.reduceLT, Nat.reduceEqDiff, Nat.zero_add, Nat.reduceAdd, Option.map_some, X4, List.getElem_toArray, List.getElem_cons_zero, List.getElem_cons_succ, hf3', x_nil, nilL_some, Option.isSome_some, c5, bin_eqlNil, Option.isNone_none]
             refine hK _ ?_
             clear hK K))
        refine d_done ?_
        intro O2 w2 r2
        refine t_true rfl ?_
        refine t_region ?_
        repeat (first
          | (refine t_skG rfl (by decide) rfl ?_)
          | (refine t_skU rfl (by decide) rfl ?_)
          | (first | refine t_rdG (by decide) rfl (by decide) rfl (fun K hK => ?_) | refine t_rd (by decide) (fun K hK => ?_)
             simp only [Xa, Xb, Xc, Xd, Xe, Xf, Xg, Xh, Xi, Xj, Xk, Xl, Xm, Xn, Xo, Xp, Xq, Xr, Xs, Xt, Xu, Xv, Xw, Xx, Xy, Xz, XA, XB, XD, XE, XF, XG, XH, XI, ev, XJ, upd, args1, args2, args3, args4, XK, XL, XM, extL, XN, XO, XP, XQ, XR, XT, XU, XV, XW, XX, XY, XZ, X0, X1, X2, X3, Addr.add, ↓reduceIte, Nat.reduceLT, Nat.reduceEqDiff, Nat.zero_add, Nat.reduceAdd, Option.map_some, X4, List.getElem_toArray, List.getElem_cons_zero, List.getElem_cons_succ]
             refine hK _ ?_
             clear hK K))
        refine t_done ?_
        refine t_inBlock ?_
        refine t_region ?_
        repeat (first
          | (refine t_skG rfl (by decide) rfl ?_)
          | (refine t_skU rfl (by decide) rfl ?_)
          | (first | refine t_rdG (by decide) rfl (by decide) rfl (fun K hK => ?_) | refine t_rd (by decide) (fun K hK => ?_)
             simp only [Xa, Xb, Xc, Xd, Xe, Xf, Xg, Xh, Xi, Xj, Xk, Xl, Xm, Xn, Xo, Xp, Xq, Xr, Xs, Xt, Xu, Xv, Xw, Xx, Xy, Xz, XA, XB, XD, XE, XF, XG, XH, XI, ev, XJ, upd, args1, args2, args3, args4, XK, XL, XM, extL, XN, XO, XP, XQ, XR, XT, XU, XV, XW, XX, XY, XZ, X0, X1, X2, X3, Addr.add, ↓reduceIte, Nat.reduceLT, Nat.reduceEqDiff, Nat.zero_add, Nat.reduceAdd, Option.map_some, X4, List.getElem_toArray, List.getElem_cons_zero, List.getElem_cons_succ, hf8, hw2]
             refine hK _ ?_
             clear hK K))
        refine t_done ?_
        refine t_inLoop ?_
        refine ih (l.length - (j + 1)) _ O2 w2 (by omega) ⟨r1.trans r2, hf6, hf7, j + 1, rfl, ?_, rfl, by omega⟩
        rw [enx, hb]; unfold bestStep; simp only [hmo, better, Bool.and_self, if_true]; rfl
      | some q =>
        obtain ⟨i0, q⟩ := q
        rw [hb] at hf3
        have hf3' : f 3 = .pointer (some ⟨q.b, 0, none⟩) := hf3
        have hqm : q ∈ l := by
          rcases bestOf_mem _ _ _ _ _ hb with h0 | ⟨_, h1, _⟩
          · cases h0
          · exact List.mem_of_mem_take (List.mem_of_getElem? h1)
        have wb := (hv1.2 q hqm).whole
        iterate 16 (first
          | (refine d_skG rfl (by decide) rfl ?_)
          | (refine d_skU rfl (by decide) rfl ?_)
          | (first | refine d_rdG rfl (by decide) rfl (fun K hK => ?_) | refine d_rd (fun K hK => ?_)
             simp only [Xa, Xb, Xc, Xd, Xe, Xf, Xg, Xh, Xi, Xj, Xk, Xl, Xm, Xn, Xo, Xp, Xq, Xr, Xs, Xt, Xu, Xv, Xw, Xx, Xy, Xz, XA, XB, XD, XE, XF, XG, XH, XI, ev, XJ, upd, args1, args2, args3, args4, XK, XL, XM, extL, XN, XO, XP, XQ, XR, XT, XU, XV, XW, XX, XY, XZ, X0, X1, X2, X3, Addr.add, ↓reduceIte, Nat.reduceLT, Nat.reduceEqDiff, Nat.zero_add, Nat.reduceAdd, Option.map_some, X4, List.getElem_toArray, List.getElem_cons_zero, List.getElem_cons_succ, hf3', x_nil, nilL_some, Option.isSome_some, c5, bin_eqlNil, Option.isNone_some, wq, wb]
             refine hK _ ?_
             clear hK K))
        refine d_call0 (v := .bool (bef l[j].e q.e)) (vals := #[l[j].e.v, q.e.v]) (by decide) (wanted_of (j := 7) (d := 19) (t := false) (z := false) rfl rfl (by decide) rfl) rfl Try.func36 rfl rfl (by simp only [List.map_toArray, List.map_cons, List.map_nil, Xa, Xb, Xc, Xd, Xe, Xf, Xg, Xh, Xi, Xj, Xk, Xl, Xm, Xn, Xo, Xp, Xq, Xr, Xs, Xt, Xu, Xv, Xw, Xx, Xy, Xz, XA, XB, XD, XE, XF, XG, XH, XI, ev, XJ, upd, args1, args2, args3, args4, XK, XL, XM, extL, XN, XO, XP, XQ, XR, XT, XU, XV, XW, XX, XY, XZ, X0, X1, X2, X3, Addr.add, ↓reduceIte, Nat.reduceLT, Nat.reduceEqDiff, Nat.zero_add, Nat.reduceAdd, Option.map_some, X4, List.getElem_toArray, List.getElem_cons_zero, List.getElem_cons_succ]) ?_ ?_
        · intro c2 O2 w2 r2 h2
          exact before_M l[j].e q.e O2 w2 c2 _ h2
        ·
          repeat (first
            | (refine d_skG rfl (by decide) rfl ?_)
            | (refine d_skU rfl (by decide) rfl ?_)
            | (first | refine d_rdG rfl (by decide) rfl (fun K hK => ?_) | refine d_rd (fun K hK => ?_)
               simp only [Xa, Xb, Xc, Xd, Xe, Xf, Xg, Xh, Xi, Xj, Xk, Xl, Xm, Xn, Xo, Xp, Xq, Xr, Xs, Xt, Xu, Xv, Xw, Xx, Xy, Xz, XA, XB, XD, XE, XF, XG, XH, XI, ev, XJ, upd, args1, args2, args3, args4, XK, XL, XM, extL, XN, XO, XP, XQ, XR, XT, XU, XV, XW, XX, XY, XZ, X0, X1, X2, X3, Addr.add, ↓reduceIte, Nat.reduceLT, Nat.reduceEqDiff, Nat.zero_add, Nat.reduceAdd, Option.map_some, X4, List.getElem_toArray, List.getElem_cons_zero, List.getElem_cons_succ]
               refine hK _ ?_
               clear hK K))
          refine d_done ?_
          intro O2 w2 r2
          cases hbe : bef l[j].e q.e with
          | true =>
            refine t_true (by first | (simp only [Xa, Xb, Xc, Xd, Xe, Xf, Xg, Xh, Xi, Xj, Xk, Xl, Xm, Xn, Xo, Xp, Xq, Xr, Xs, Xt, Xu, Xv, Xw, Xx, Xy, Xz, XA, XB, XD, XE, XF, XG, XH, XI, ev, XJ, upd, args1, args2, args3, args4, XK, XL, XM, extL, XN, XO, XP, XQ, XR, XT, XU, XV, XW, XX, XY, XZ, X0, X1, X2, X3, Addr.add, ↓reduceIte, Nat.reduceLT, Nat.reduceEqDiff, Nat.zero_add, Nat.reduceAdd, Option.map_some, X4, List.getElem_toArray, List.getElem_cons_zero, List.getElem_cons_succ, hbe]; done) | (simp only [Xa, Xb, Xc, Xd, Xe, Xf, Xg, Xh, Xi, Xj, Xk, Xl, Xm, Xn, Xo, Xp, Xq, Xr, Xs, Xt, Xu, Xv, Xw, Xx, Xy, Xz, XA, XB, XD, XE, XF, XG, XH, XI, ev, XJ, upd, args1, args2, args3, args4, XK, XL, XM, extL, XN, XO, XP, XQ, XR, XT, XU, XV, XW, XX, XY, XZ, X0, X1, X2, X3, Addr.add, ↓reduceIte, Nat.reduceLT, Nat.reduceEqDiff, Nat.zero_add, Nat.reduceAdd, Option.map_some, X4, List.getElem_toArray, List.getElem_cons_zero, List.getElem_cons_succ, hbe]; rfl)) ?_
            refine t_region ?_
            repeat (first
              | (refine t_skG rfl (by decide) rfl ?_)
              | (refine t_skU rfl (by decide) rfl ?_)
              | (first | refine t_rdG (by decide) rfl (by decide) rfl (fun K hK => ?_) | refine t_rd (by decide) (fun K hK => ?_)
                 simp only [Xa, Xb, Xc, Xd, Xe, Xf, Xg, Xh, Xi, Xj, Xk, Xl, Xm, Xn, Xo, Xp, Xq, Xr, Xs, Xt, Xu, Xv, Xw, Xx, Xy, Xz, XA, XB, XD, XE, XF, XG, XH, XI, ev, XJ, upd, args1, args2, args3, args4, XK, XL, XM, extL, XN, XO, XP, XQ, XR, XT, XU, XV, XW, XX, XY, XZ, X0, X1, X2, X3, Addr.add, ↓reduceIte, Nat.reduceLT, Nat.reduceEqDiff, Nat.zero_add, Nat.reduceAdd, Option.map_some, X4, List.getElem_toArray, List.getElem_cons_zero, List.getElem_cons_succ]
                 refine hK _ ?_
                 clear hK K))
            refine t_done ?_
            refine t_inBlock ?_
            refine t_region ?_
            repeat (first
              | (refine t_skG rfl (by decide) rfl ?_)
              | (refine t_skU rfl (by decide) rfl ?_)
              | (first | refine t_rdG (by decide) rfl (by decide) rfl (fun K hK => ?_) | refine t_rd (by decide) (fun K hK => ?_)
                 simp only [Xa, Xb, Xc, Xd, Xe, Xf, Xg, Xh, Xi, Xj, Xk, Xl, Xm, Xn, Xo, Xp, Xq, Xr, Xs, Xt, Xu, Xv, Xw, Xx, Xy, Xz, XA, XB, XD, XE, XF, XG, XH, XI, ev, XJ, upd, args1, args2, args3, args4, XK, XL, XM, extL, XN, XO, XP, XQ, XR, XT, XU, XV, XW, XX, XY, XZ, X0, X1, X2, X3, Addr.add, ↓reduceIte, Nat.reduceLT, Nat.reduceEqDiff, Nat.zero_add, Nat.reduceAdd, Option.map_some, X4, List.getElem_toArray, List.getElem_cons_zero, List.getElem_cons_succ, hf8, hw2]
                 refine hK _ ?_
                 clear hK K))
            refine t_done ?_
            refine t_inLoop ?_
            refine ih (l.length - (j + 1)) _ O2 w2 (by omega) ⟨r1.trans r2, hf6, hf7, j + 1, rfl, ?_, rfl, by omega⟩
            rw [enx, hb]; unfold bestStep; simp only [hmo, better, hbe, Bool.and_self, Bool.true_and, if_true]; rfl
          | false =>
            refine t_false (by first | (simp only [Xa, Xb, Xc, Xd, Xe, Xf, Xg, Xh, Xi, Xj, Xk, Xl, Xm, Xn, Xo, Xp, Xq, Xr, Xs, Xt, Xu, Xv, Xw, Xx, Xy, Xz, XA, XB, XD, XE, XF, XG, XH, XI, ev, XJ, upd, args1, args2, args3, args4, XK, XL, XM, extL, XN, XO, XP, XQ, XR, XT, XU, XV, XW, XX, XY, XZ, X0, X1, X2, X3, Addr.add, ↓reduceIte, Nat.reduceLT, Nat.reduceEqDiff, Nat.zero_add, Nat.reduceAdd, Option.map_some, X4, List.getElem_toArray, List.getElem_cons_zero, List.getElem_cons_succ, hbe]; done) | (simp only [Xa, Xb, Xc, Xd, Xe, Xf, Xg, Xh, Xi, Xj, Xk, Xl, Xm, Xn, Xo, Xp, Xq, Xr, Xs, Xt, Xu, Xv, Xw, Xx, Xy, Xz, XA, XB, XD, XE, XF, XG, XH, XI, ev, XJ, upd, args1, args2, args3, args4, XK, XL, XM, extL, XN, XO, XP, XQ, XR, XT, XU, XV, XW, XX, XY, XZ, X0, X1, X2, X3, Addr.add, ↓reduceIte, Nat.reduceLT, Nat.reduceEqDiff, Nat.zero_add, Nat.reduceAdd, Option.map_some, X4, List.getElem_toArray, List.getElem_cons_zero, List.getElem_cons_succ, hbe]; rfl)) ?_
            refine t_skip ?_
            refine t_inBlock ?_
            refine t_region ?_
            repeat (first
              | (refine t_skG rfl (by decide) rfl ?_)
              | (refine t_skU rfl (by decide) rfl ?_)
              | (first | refine t_rdG (by decide) rfl (by decide) rfl (fun K hK => ?_) | refine t_rd (by decide) (fun K hK => ?_)
                 simp only [Xa, Xb, Xc, Xd, Xe, Xf, Xg, Xh, Xi, Xj, Xk, Xl, Xm, Xn, Xo, Xp, Xq, Xr, Xs, Xt, Xu, Xv, Xw, Xx, Xy, Xz, XA, XB, XD, XE, XF, XG, XH, XI, ev, XJ, upd, args1, args2, args3, args4, XK, XL, XM, extL, XN, XO, XP, XQ, XR, XT, XU, XV, XW, XX, XY, XZ, X0, X1, X2, X3, Addr.add, ↓reduceIte, Nat.reduceLT, Nat.reduceEqDiff, Nat.zero_add, Nat.reduceAdd, Option.map_some, X4, List.getElem_toArray, List.getElem_cons_zero, List.getElem_cons_succ, hf8, hw2]
                 refine hK _ ?_
                 clear hK K))
            refine t_done ?_
            refine t_inLoop ?_
            refine ih (l.length - (j + 1)) _ O2 w2 (by omega) ⟨r1.trans r2, hf6, hf7, j + 1, rfl, ?_, rfl, by omega⟩
            rw [enx, hb]; unfold bestStep; simp only [hmo, better, hbe, Bool.true_and, Bool.false_eq_true, if_false]; exact hf3'
  · have hd : decide ((j : Int) < (l.length : Int)) = false := by simp; omega
    repeat (first
      | (refine t_skG rfl (by decide) rfl ?_)
      | (refine t_skU rfl (by decide) rfl ?_)
      | (first | refine t_rdG (by decide) rfl (by decide) rfl (fun K hK => ?_) | refine t_rd (by decide) (fun K hK => ?_)
         simp only [Xa, Xb, Xc, Xd, Xe, Xf, Xg, Xh, Xi, Xj, Xk, Xl, Xm, Xn, Xo, Xp, Xq, Xr, Xs, Xt, Xu, Xv, Xw, Xx, Xy, Xz, XA, XB, XD, XE, XF, XG, XH, XI, ev, XJ, upd, args1, args2, args3, args4, XK, XL, XM, extL, XN, XO, XP, XQ, XR, XT, XU, XV, XW, XX, XY, XZ, X0, X1, X2, X3, Addr.add, ↓reduceIte, Nat.reduceLT, Nat.reduceEqDiff, Nat.zero_add, Nat.reduceAdd, Option.map_some, X4, List.getElem_toArray, List.getElem_cons_zero, List.getElem_cons_succ, hf7, hf8, hd]
         refine hK _ ?_
         clear hK K))
    refine t_done ?_
    refine t_seq ?_
    refine t_false rfl ?_
    refine t_exit rfl ?_
    refine t_seq ?_
    refine t_region ?_
    repeat (first
      | (refine t_skG rfl (by decide) rfl ?_)
      | (refine t_skU rfl (by decide) rfl ?_)
      | (first | refine t_rdG (by decide) rfl (by decide) rfl (fun K hK => ?_) | refine t_rd (by decide) (fun K hK => ?_)
         simp only [Xa, Xb, Xc, Xd, Xe, Xf, Xg, Xh, Xi, Xj, Xk, Xl, Xm, Xn, Xo, Xp, Xq, Xr, Xs, Xt, Xu, Xv, Xw, Xx, Xy, Xz, XA, XB, XD, XE, XF, XG, XH, XI, ev, XJ, upd, args1, args2, args3, args4, XK, XL, XM, extL, XN, XO, XP, XQ, XR, XT, XU, XV, XW, XX, XY, XZ, X0, X1, X2, X3, Addr.add, ↓reduceIte, Nat.reduceLT, Nat.reduceEqDiff, Nat.zero_add, Nat.reduceAdd, Option.map_some, X4, List.getElem_toArray, List.getElem_cons_zero, List.getElem_cons_succ, hf3]
         refine hK _ ?_
         clear hK K))
    refine t_done ?_
    refine t_ret ?_
    refine t_leave1 rfl Try.func29 Try.results29 ?_
    obtain rfl : j = l.length := by omega
    rw [List.take_length] at *
    exact h O1 w1 r1
end Go.Proofs.Ytdajdembeacefaa.M

/-
  Contracts of Merge (for main) and Visible.
-/
import Derived.Test.YtdajdembeacefaaAS
set_option linter.unusedSimpArgs false
set_option linter.unusedVariables false
namespace Go.Proofs.Ytdajdembeacefaa.M
open Go.Conc

def maxInt : Int := 9223372036854775807
set_option maxHeartbeats 4000000 in
theorem Merge_M {Post : Value → World → Prop} (ls : List (List Ent)) (v : Value) (O : Gh) (w : World) (c : Frame) (cs : List Frame) (hv : Sl2 (ldOf x0 O w) v ls) (hd : O.deaf = 0)
    (hls : ls.length < 100000) (hlen : ∀ l ∈ ls, l.length < 100000) (htot : total ls < 100000)
    (h : goodL ls = true → ∀ O' w' s m, Keep O w O' w' → Buf 4 x0 O' w' m s ((firstL ls maxInt).map Ent.cells) → (firstL ls maxInt ≠ [] → w.heap.size ≤ m ∧ m < w'.heap.size) → (firstL ls maxInt = [] → s = .slice none 0 0) →
      Tree P x0 (Will P Post) O' (G (c.finish (.tuple #[s, .int .i64 0])) cs) w')
    (herr : goodL ls = false → ∀ O' w', Keep O w O' w' → Tree P x0 (Will P Post) O' (G (c.finish (.tuple #[.slice none 0 0, .int .i64 60])) cs) w') :
    Tree P x0 (Will P Post) O (G (Frame.enter P 10 #[v] .normal) (c :: cs)) w := by
  rw [enter1 _ Try.func10 rfl Try.ntmps10 (by decide)]
  refine t_seq ?_
  refine t_region ?_
  repeat (first
    | (refine t_skG rfl (by decide) rfl ?_)
    | (refine t_skU rfl (by decide) rfl ?_)
    | (first | refine t_rdG (by decide) rfl (by decide) rfl (fun K hK => ?_) | refine t_rd (by decide) (fun K hK => ?_)
       simp only [Xa, Xb, Xc, Xd, Xe, Xf, Xg, Xh, Xi, Xj, Xk, Xl, Xm, Xn, Xo, Xp, Xq, Xr, Xs, Xt, Xu, Xv, Xw, Xx, Xy, Xz, XA, XB, XD, XE, XF, XG, XH, XI, ev, XJ, upd, args1, args2, args3, args4, XK, XL, XM, extL, XN, XO, XP, XQ, XR, XT, XU, XV, XW, XX, XY, XZ, X0, X1, X2, X3, Addr.add, ↓reduceIte, Nat.reduceLT, Nat.reduceEqDiff, Nat.zero_add, Nat.reduceAdd, Option.map_some, X4, List.getElem_toArray, List.getElem_cons_zero, List.getElem_cons_succ]
       refine hK _ ?_
       clear hK K))
  refine t_done ?_
  refine t_seq ?_
  refine t_region ?_
  iterate 1 (first
    | (refine t_skG rfl (by decide) rfl ?_)
    | (refine t_skU rfl (by decide) rfl ?_)
    | (first | refine t_rdG (by decide) rfl (by decide) rfl (fun K hK => ?_) | refine t_rd (by decide) (fun K hK => ?_)
       simp only [Xa, Xb, Xc, Xd, Xe, Xf, Xg, Xh, Xi, Xj, Xk, Xl, Xm, Xn, Xo, Xp, Xq, Xr, Xs, Xt, Xu, Xv, Xw, Xx, Xy, Xz, XA, XB, XD, XE, XF, XG, XH, XI, ev, XJ, upd, args1, args2, args3, args4, XK, XL, XM, extL, XN, XO, XP, XQ, XR, XT, XU, XV, XW, XX, XY, XZ, X0, X1, X2, X3, Addr.add, ↓reduceIte, Nat.reduceLT, Nat.reduceEqDiff, Nat.zero_add, Nat.reduceAdd, Option.map_some, X4, List.getElem_toArray, List.getElem_cons_zero, List.getElem_cons_succ]
       refine hK _ ?_
       clear hK K))
  refine t_callA #[v, .int .i64 maxInt] (by decide) Try.func11 nm11 rfl (by simp only [List.map_toArray, List.map_cons, List.map_nil, Xa, Xb, Xc, Xd, Xe, Xf, Xg, Xh, Xi, Xj, Xk, Xl, Xm, Xn, Xo, Xp, Xq, Xr, Xs, Xt, Xu, Xv, Xw, Xx, Xy, Xz, XA, XB, XD, XE, XF, XG, XH, XI, ev, XJ, upd, args1, args2, args3, args4, XK, XL, XM, extL, XN, XO, XP, XQ, XR, XT, XU, XV, XW, XX, XY, XZ, X0, X1, X2, X3, Addr.add, ↓reduceIte, Nat.reduceLT, Nat.reduceEqDiff, Nat.zero_add, Nat.reduceAdd, Option.map_some, X4, List.getElem_toArray, List.getElem_cons_zero, List.getElem_cons_succ]; rfl) ?_
  intro c2 hret
  refine First_M ls v maxInt O w c2 (c :: cs) hv hd hls hlen htot (fun hg O' w' s m hk hb hm hs => ?_) (fun hg O' w' hk => ?_)
  · refine hret _ O' w' ?_
    have e0 : extL 0 (.tuple #[s, .int .i64 0]) = some (.value s) := rfl
    have e1 : extL 1 (.tuple #[s, .int .i64 0]) = some (.value (.int .i64 0)) := rfl
    repeat (first
      | (refine t_skG rfl (by decide) rfl ?_)
      | (refine t_skU rfl (by decide) rfl ?_)
      | (first | refine t_rdG (by decide) rfl (by decide) rfl (fun K hK => ?_) | refine t_rd (by decide) (fun K hK => ?_)
         simp only [Xa, Xb, Xc, Xd, Xe, Xf, Xg, Xh, Xi, Xj, Xk, Xl, Xm, Xn, Xo, Xp, Xq, Xr, Xs, Xt, Xu, Xv, Xw, Xx, Xy, Xz, XA, XB, XD, XE, XF, XG, XH, XI, ev, XJ, upd, args1, args2, args3, args4, XK, XL, XM, extL, XN, XO, XP, XQ, XR, XT, XU, XV, XW, XX, XY, XZ, X0, X1, X2, X3, Addr.add, ↓reduceIte, Nat.reduceLT, Nat.reduceEqDiff, Nat.zero_add, Nat.reduceAdd, Option.map_some, X4, List.getElem_toArray, List.getElem_cons_zero, List.getElem_cons_succ, e0, e1]
         refine hK _ ?_
         clear hK K))
    refine t_done ?_
    refine t_ret ?_
    refine t_leave2 rfl Try.func10 Try.results10 ?_
    exact h hg O' w' s m hk hb hm hs
  · refine hret _ O' w' ?_
    have e0 : extL 0 (.tuple #[.slice none 0 0, .int .i64 60]) = some (.value (.slice none 0 0)) := rfl
    have e1 : extL 1 (.tuple #[.slice none 0 0, .int .i64 60]) = some (.value (.int .i64 60)) := rfl
    repeat (first
      | (refine t_skG rfl (by decide) rfl ?_)
      | (refine t_skU rfl (by decide) rfl ?_)
      | (first | refine t_rdG (by decide) rfl (by decide) rfl (fun K hK => ?_) | refine t_rd (by decide) (fun K hK => ?_)
         simp only [Xa, Xb, Xc, Xd, Xe, Xf, Xg, Xh, Xi, Xj, Xk, Xl, Xm, Xn, Xo, Xp, Xq, Xr, Xs, Xt, Xu, Xv, Xw, Xx, Xy, Xz, XA, XB, XD, XE, XF, XG, XH, XI, ev, XJ, upd, args1, args2, args3, args4, XK, XL, XM, extL, XN, XO, XP, XQ, XR, XT, XU, XV, XW, XX, XY, XZ, X0, X1, X2, X3, Addr.add, ↓reduceIte, Nat.reduceLT, Nat.reduceEqDiff, Nat.zero_add, Nat.reduceAdd, Option.map_some, X4, List.getElem_toArray, List.getElem_cons_zero, List.getElem_cons_succ, e0, e1]
         refine hK _ ?_
         clear hK K))
    refine t_done ?_
    refine t_ret ?_
    refine t_leave2 rfl Try.func10 Try.results10 ?_
    exact herr hg O' w' hk

/-! ### Visible -/
theorem x_build50 {L : Addr → Option Value} {ρ : Operand → Value} {d : Option Nat} {t : TypeId} {p : String} {e : Array Edge} {g : Option (Nat × Bool)} (y z : Operand) {a b : ByteArray} (hy : ρ y = .string a) (hz : ρ z = .string b) :
    runL P L (execOp ρ ⟨d, .build 50 #[(0, y), (1, z)], t, p, e, g⟩) = some (.value (Pr.v ⟨a, b⟩)) := by
  simp only [execOp, List.map_toArray, List.map_cons, List.map_nil, hy, hz, Instr.build]
  have hz : runL P L (zeroValue 50) = some (.agg #[.string ⟨#[]⟩, .string ⟨#[]⟩]) := rfl
  have h9 : runL P L (sizeOf 9) = some 1 := by rw [runL_sizeOf]; rfl
  simp only [runL_bind, hz, Option.bind_some, runL_underlying, Try.underlying50]
  simp [runL_bind, runL_map, runL_pure, h9, Instr.fill, Value.cells]
  rfl
def keyIs (k : ByteArray) (e : Ent) : Bool := e.key.toList == k.toList
def visIn (seq : Int) (k : ByteArray) : List Ent → List Pr × List Ent
  | [] => ([], [])
  | e :: l => if keyIs k e then (if seq < e.seq then visIn seq k l else ((if e.del then [] else [⟨k, e.val⟩]), (e :: l).dropWhile (keyIs k))) else ([], e :: l)
def visF (seq : Int) : Nat → List Ent → List Pr
  | 0, _ => []
  | _ + 1, [] => []
  | n + 1, e :: l => (visIn seq e.key (e :: l)).1 ++ visF seq n (visIn seq e.key (e :: l)).2
def visL (l : List Ent) (seq : Int) : List Pr := visF seq l.length l
theorem prcells_ok (l : List Pr) : ∀ a ∈ l.map Pr.cells, a.size = 2 ∧ ∀ u ∈ a.toList, one? u = true := by
  intro a ha
  obtain ⟨e, _, rfl⟩ := List.mem_map.1 ha
  refine ⟨rfl, fun u hu => ?_⟩
  simp [Pr.cells] at hu
  rcases hu with rfl | rfl <;> rfl
theorem visIn_len (seq : Int) (k : ByteArray) : ∀ l : List Ent, (visIn seq k l).2.length ≤ l.length
  | [] => Nat.le_refl _
  | e :: l => by
    unfold visIn
    split
    · split
      · have := visIn_len seq k l; simp; omega
      · have := (List.dropWhile_suffix (l := e :: l) (keyIs k)).length_le
        exact this
    · exact Nat.le_refl _

/-- A slice of one new element. -/
theorem New.one {x : Th} {O O1 : Gh} {w w1 : World} {m : Nat} {a : Array Value} {t : TypeId} (h : New x O w O1 w1 m (.cells a t)) : Sl a.size (ldOf x O1 w1) (.slice (some ⟨m, 0, none⟩) 1 1) [a] := .inr ⟨m, 0, 1, rfl, Nat.le_refl _, fun i b hi => by
  rcases i with _ | i
  · simp at hi; subst hi
    refine ⟨rfl, fun k hk => ?_⟩
    have hk4 : a[k]? = some (a[k]'hk) := Array.getElem?_eq_getElem hk
    rw [Nat.zero_mul, Nat.zero_add, hk4]
    exact h.cell k _ hk4
  · simp at hi⟩
theorem idx_spot {L : Addr → Option Value} {v : Value} {l : List Ent} (h : SlE L v l) {i : Nat} {A : Addr} (hi : idxL 4 v (.int .i64 i) = some (.value (.pointer (some A)))) : A.spot = none := by
  rcases h with ⟨_, a, c, rfl⟩ | ⟨b, o, c, rfl, _, _⟩
  · cases a with
    | none => simp [idxL] at hi
    | some a => simp only [idxL] at hi; rw [if_neg (by omega)] at hi; cases hi
  · simp only [idxL] at hi
    split at hi
    · simp only [Option.some.injEq, Next.value.injEq, Value.pointer.injEq] at hi
      subst hi; rw [add_none]
    · cases hi
noncomputable def scope17 : Code := match tlC ((Try.f17).body.getD .skip) with
  | .scope b => b
  | c => c
noncomputable def loopA17 : Code := bodyB (tlC (hdC (tlC (tlC (tlC scope17)))))
noncomputable def loopB17 : Code := bodyB (tlC (bodyB' (tlC loopA17)))
noncomputable def rest12v : Code := tlC (tlC (bodyB' (hdC (tlC loopB17))))
/-- One element is appended to a buffer (the operations 'buildSlice' and 'append'), of sz cells each. -/
theorem buf_nil_any {sz : Nat} {x : Th} {O : Gh} {w : World} {m m' : Nat} {s : Value} (h : s = .slice none 0 0) : Buf sz x O w m' s [] := by rw [h]; exact Buf.nil _ _ _ _ _

set_option maxHeartbeats 16000000 in
theorem Visible_M {x : Th} {St : Gh → Goroutine → World → Prop} (l : List Ent) (v : Value) (seq : Int) (O : Gh) (w : World) (c : Frame) (cs : List Frame) (hv : SlE (ldOf x O w) v l) (hlen : l.length < 100000)
    (h : ordL l = true → ∀ O' w' m s, Rel x O w O' w' → Buf 2 x O' w' m s ((visL l seq).map Pr.cells) → Tree P x St O' (G (c.finish (.tuple #[s, .int .i64 0])) cs) w')
    (herr : ordL l = false → ∀ O' w', Rel x O w O' w' → Tree P x St O' (G (c.finish (.tuple #[.slice none 0 0, .int .i64 60])) cs) w') :
    Tree P x St O (G (Frame.enter P 17 #[v, .int .i64 seq] .normal) (c :: cs)) w := by
  rw [enter2 _ _ Try.func17 rfl Try.ntmps17 (by decide)]
  refine t_seq ?_
  refine t_region ?_
  repeat (first
    | (refine t_skG rfl (by decide) rfl ?_)
    | (refine t_skU rfl (by decide) rfl ?_)
    | (first | refine t_rdG (by decide) rfl (by decide) rfl (fun K hK => ?_) | refine t_rd (by decide) (fun K hK => ?_)
       simp only [Xa, Xb, Xc, Xd, Xe, Xf, Xg, Xh, Xi, Xj, Xk, Xl, Xm, Xn, Xo, Xp, Xq, Xr, Xs, Xt, Xu, Xv, Xw, Xx, Xy, Xz, XA, XB, XD, XE, XF, XG, XH, XI, ev, XJ, upd, args1, args2, args3, args4, XK, XL, XM, extL, XN, XO, XP, XQ, XR, XT, XU, XV, XW, XX, XY, XZ, X0, X1, X2, X3, Addr.add, ↓reduceIte, Nat.reduceLT, Nat.reduceEqDiff, Nat.zero_add, Nat.reduceAdd, Option.map_some, X4, List.getElem_toArray, List.getElem_cons_zero, List.getElem_cons_succ]
       refine hK _ ?_
       clear hK K))
  refine t_done ?_
  refine t_scope ?_
  refine t_seq ?_
  refine t_seq ?_
  refine t_region ?_
  iterate 1 (first
    | (refine t_skG rfl (by decide) rfl ?_)
    | (refine t_skU rfl (by decide) rfl ?_)
    | (first | refine t_rdG (by decide) rfl (by decide) rfl (fun K hK => ?_) | refine t_rd (by decide) (fun K hK => ?_)
       simp only [Xa, Xb, Xc, Xd, Xe, Xf, Xg, Xh, Xi, Xj, Xk, Xl, Xm, Xn, Xo, Xp, Xq, Xr, Xs, Xt, Xu, Xv, Xw, Xx, Xy, Xz, XA, XB, XD, XE, XF, XG, XH, XI, ev, XJ, upd, args1, args2, args3, args4, XK, XL, XM, extL, XN, XO, XP, XQ, XR, XT, XU, XV, XW, XX, XY, XZ, X0, X1, X2, X3, Addr.add, ↓reduceIte, Nat.reduceLT, Nat.reduceEqDiff, Nat.zero_add, Nat.reduceAdd, Option.map_some, X4, List.getElem_toArray, List.getElem_cons_zero, List.getElem_cons_succ]
       refine hK _ ?_
       clear hK K))
  refine t_callA #[v] (by decide) Try.func23 nm23 rfl (by simp only [List.map_toArray, List.map_cons, List.map_nil, Xa, Xb, Xc, Xd, Xe, Xf, Xg, Xh, Xi, Xj, Xk, Xl, Xm, Xn, Xo, Xp, Xq, Xr, Xs, Xt, Xu, Xv, Xw, Xx, Xy, Xz, XA, XB, XD, XE, XF, XG, XH, XI, ev, XJ, upd, args1, args2, args3, args4, XK, XL, XM, extL, XN, XO, XP, XQ, XR, XT, XU, XV, XW, XX, XY, XZ, X0, X1, X2, X3, Addr.add, ↓reduceIte, Nat.reduceLT, Nat.reduceEqDiff, Nat.zero_add, Nat.reduceAdd, Option.map_some, X4, List.getElem_toArray, List.getElem_cons_zero, List.getElem_cons_succ]) ?_
  intro c2 hret
  refine ordered_M _ _ _ _ _ _ hv (by omega) ?_
  intro O1 w1 r1
  refine hret _ O1 w1 ?_
  clear hret
  cases ho : ordL l with
  | false =>
    repeat (first
      | (refine t_skG rfl (by decide) rfl ?_)
      | (refine t_skU rfl (by decide) rfl ?_)
      | (first | refine t_rdG (by decide) rfl (by decide) rfl (fun K hK => ?_) | refine t_rd (by decide) (fun K hK => ?_)
         simp only [Xa, Xb, Xc, Xd, Xe, Xf, Xg, Xh, Xi, Xj, Xk, Xl, Xm, Xn, Xo, Xp, Xq, Xr, Xs, Xt, Xu, Xv, Xw, Xx, Xy, Xz, XA, XB, XD, XE, XF, XG, XH, XI, ev, XJ, upd, args1, args2, args3, args4, XK, XL, XM, extL, XN, XO, XP, XQ, XR, XT, XU, XV, XW, XX, XY, XZ, X0, X1, X2, X3, Addr.add, ↓reduceIte, Nat.reduceLT, Nat.reduceEqDiff, Nat.zero_add, Nat.reduceAdd, Option.map_some, X4, List.getElem_toArray, List.getElem_cons_zero, List.getElem_cons_succ]
         refine hK _ ?_
         clear hK K))
    refine t_done ?_
    refine t_true rfl ?_
    refine t_seq ?_
    refine t_region ?_
    repeat (first
      | (refine t_skG rfl (by decide) rfl ?_)
      | (refine t_skU rfl (by decide) rfl ?_)
      | (first | refine t_rdG (by decide) rfl (by decide) rfl (fun K hK => ?_) | refine t_rd (by decide) (fun K hK => ?_)
         simp only [Xa, Xb, Xc, Xd, Xe, Xf, Xg, Xh, Xi, Xj, Xk, Xl, Xm, Xn, Xo, Xp, Xq, Xr, Xs, Xt, Xu, Xv, Xw, Xx, Xy, Xz, XA, XB, XD, XE, XF, XG, XH, XI, ev, XJ, upd, args1, args2, args3, args4, XK, XL, XM, extL, XN, XO, XP, XQ, XR, XT, XU, XV, XW, XX, XY, XZ, X0, X1, X2, X3, Addr.add, ↓reduceIte, Nat.reduceLT, Nat.reduceEqDiff, Nat.zero_add, Nat.reduceAdd, Option.map_some, X4, List.getElem_toArray, List.getElem_cons_zero, List.getElem_cons_succ]
         refine hK _ ?_
         clear hK K))
    refine t_done ?_
    refine t_ret ?_
    refine t_leave2 rfl Try.func17 Try.results17 ?_
    exact herr ho O1 w1 r1
  | true =>
    replace h := h ho
    repeat (first
      | (refine t_skG rfl (by decide) rfl ?_)
      | (refine t_skU rfl (by decide) rfl ?_)
      | (first | refine t_rdG (by decide) rfl (by decide) rfl (fun K hK => ?_) | refine t_rd (by decide) (fun K hK => ?_)
         simp only [Xa, Xb, Xc, Xd, Xe, Xf, Xg, Xh, Xi, Xj, Xk, Xl, Xm, Xn, Xo, Xp, Xq, Xr, Xs, Xt, Xu, Xv, Xw, Xx, Xy, Xz, XA, XB, XD, XE, XF, XG, XH, XI, ev, XJ, upd, args1, args2, args3, args4, XK, XL, XM, extL, XN, XO, XP, XQ, XR, XT, XU, XV, XW, XX, XY, XZ, X0, X1, X2, X3, Addr.add, ↓reduceIte, Nat.reduceLT, Nat.reduceEqDiff, Nat.zero_add, Nat.reduceAdd, Option.map_some, X4, List.getElem_toArray, List.getElem_cons_zero, List.getElem_cons_succ]
         refine hK _ ?_
         clear hK K))
    refine t_done ?_
    refine t_false rfl ?_
    refine t_skip ?_
    refine t_seq ?_
    refine t_region ?_
    repeat (first
      | (refine t_skG rfl (by decide) rfl ?_)
      | (refine t_skU rfl (by decide) rfl ?_)
      | (first | refine t_rdG (by decide) rfl (by decide) rfl (fun K hK => ?_) | refine t_rd (by decide) (fun K hK => ?_)
         simp only [Xa, Xb, Xc, Xd, Xe, Xf, Xg, Xh, Xi, Xj, Xk, Xl, Xm, Xn, Xo, Xp, Xq, Xr, Xs, Xt, Xu, Xv, Xw, Xx, Xy, Xz, XA, XB, XD, XE, XF, XG, XH, XI, ev, XJ, upd, args1, args2, args3, args4, XK, XL, XM, extL, XN, XO, XP, XQ, XR, XT, XU, XV, XW, XX, XY, XZ, X0, X1, X2, X3, Addr.add, ↓reduceIte, Nat.reduceLT, Nat.reduceEqDiff, Nat.zero_add, Nat.reduceAdd, Option.map_some, X4, List.getElem_toArray, List.getElem_cons_zero, List.getElem_cons_succ]
         refine hK _ ?_
         clear hK K))
    refine t_done ?_
    refine t_seq ?_
    refine t_label ?_
    refine t_seq ?_
    refine t_seq ?_
    refine t_region ?_
    repeat (first
      | (refine t_skG rfl (by decide) rfl ?_)
      | (refine t_skU rfl (by decide) rfl ?_)
      | (first | refine t_rdG (by decide) rfl (by decide) rfl (fun K hK => ?_) | refine t_rd (by decide) (fun K hK => ?_)
         simp only [Xa, Xb, Xc, Xd, Xe, Xf, Xg, Xh, Xi, Xj, Xk, Xl, Xm, Xn, Xo, Xp, Xq, Xr, Xs, Xt, Xu, Xv, Xw, Xx, Xy, Xz, XA, XB, XD, XE, XF, XG, XH, XI, ev, XJ, upd, args1, args2, args3, args4, XK, XL, XM, extL, XN, XO, XP, XQ, XR, XT, XU, XV, XW, XX, XY, XZ, X0, X1, X2, X3, Addr.add, ↓reduceIte, Nat.reduceLT, Nat.reduceEqDiff, Nat.zero_add, Nat.reduceAdd, Option.map_some, X4, List.getElem_toArray, List.getElem_cons_zero, List.getElem_cons_succ]
         refine hK _ ?_
         clear hK K))
    refine t_done ?_
    refine t_block ?_
    refine t_loop ?_
    refine t_while (fun m f O' w' => Rel x O w O' w' ∧ f 0 = v ∧ f 1 = .int .i64 seq ∧ ∃ (j n mb : Nat) (s : Value) (out : List Pr), f 7 = .int .i64 (j : Int) ∧ f 6 = s ∧ m = l.length - j ∧ j ≤ l.length ∧ l.length - j ≤ n ∧ out.length ≤ j ∧ out ++ visF seq n (l.drop j) = visL l seq ∧ w.heap.size ≤ mb ∧ Buf 2 x O' w' mb s (out.map Pr.cells))
      l.length ⟨r1, rfl, rfl, 0, l.length, w.heap.size, .slice none 0 0, [], rfl, rfl, rfl, Nat.zero_le _, by omega, Nat.le_refl _, rfl, Nat.le_refl _, Buf.nil _ _ _ _ _⟩ ?_
    clear r1
    rintro m f O1 w1 ⟨r1, hf0, hf1, j, n, mb, s, out, hf7, hf6, hm, hj, hn, hol, hvis, hmb, hbuf⟩ ih
    have hv1 := hv.rely r1
    have hl := hv1.len
    refine t_seq ?_
    refine t_seq ?_
    refine t_region ?_
    by_cases hlt : j < l.length
    · have hd : decide ((j : Int) < (l.length : Int)) = true := decide_eq_true (by omega)
      have hdrop := List.drop_eq_getElem_cons hlt
      generalize hkE : l[j] = ej at hdrop
      have hej : l[j]? = some ej := by rw [List.getElem?_eq_getElem hlt, hkE]
      obtain ⟨n', rfl⟩ : ∃ n', n = n' + 1 := ⟨n - 1, by omega⟩
      obtain ⟨A, hA⟩ := hv1.at hej
      have iA := hA.idx
      have fA := hA.f0
      have a0 : ∀ A : Addr, A.spot = none → A.add 0 = A := fun A hs => by obtain ⟨b, o, sp⟩ := A; simp only at hs; subst hs; exact add_none _ _ _
      repeat (first
        | (refine t_skG rfl (by decide) rfl ?_)
        | (refine t_skU rfl (by decide) rfl ?_)
        | (first | refine t_rdG (by decide) rfl (by decide) rfl (fun K hK => ?_) | refine t_rd (by decide) (fun K hK => ?_)
           simp only [Xa, Xb, Xc, Xd, Xe, Xf, Xg, Xh, Xi, Xj, Xk, Xl, Xm, Xn, Xo, Xp, Xq, Xr, Xs, Xt, Xu, Xv, Xw, Xx, Xy, Xz, XA, XB, XD, XE, XF, XG, XH, XI, ev, XJ, upd, args1, args2, args3, args4, XK, XL, XM, extL, XN, XO, XP, XQ, XR, XT, XU, XV, XW, XX, XY, XZ, X0, X1, X2, X3, Addr.add, ↓reduceIte, Nat.reduceLT, Nat.reduceEqDiff, Nat.zero_add, Nat.reduceAdd, Option.map_some, X4, List.getElem_toArray, List.getElem_cons_zero, List.getElem_cons_succ, hf0, hf7, hl, hd]
           refine hK _ ?_
           clear hK K))
      refine t_done ?_
      refine t_true rfl ?_
      refine t_skip ?_
      refine t_block ?_
      have aA : A.add 0 = A := a0 A (idx_spot hv1 iA)
      refine t_seq ?_
      refine t_region ?_
      repeat (first
        | (refine t_skG rfl (by decide) rfl ?_)
        | (refine t_skU rfl (by decide) rfl ?_)
        | (first | refine t_rdG (by decide) rfl (by decide) rfl (fun K hK => ?_) | refine t_rd (by decide) (fun K hK => ?_)
           simp only [Xa, Xb, Xc, Xd, Xe, Xf, Xg, Xh, Xi, Xj, Xk, Xl, Xm, Xn, Xo, Xp, Xq, Xr, Xs, Xt, Xu, Xv, Xw, Xx, Xy, Xz, XA, XB, XD, XE, XF, XG, XH, XI, ev, XJ, upd, args1, args2, args3, args4, XK, XL, XM, extL, XN, XO, XP, XQ, XR, XT, XU, XV, XW, XX, XY, XZ, X0, X1, X2, X3, Addr.add, ↓reduceIte, Nat.reduceLT, Nat.reduceEqDiff, Nat.zero_add, Nat.reduceAdd, Option.map_some, X4, List.getElem_toArray, List.getElem_cons_zero, List.getElem_cons_succ, hf0, hf7, iA, aA, fA]
           refine hK _ ?_
           clear hK K))
      refine t_done ?_
      refine t_block ?_
      refine t_loop ?_
      have hvis' : out ++ ((visIn seq ej.key (l.drop j)).1 ++ visF seq n' (visIn seq ej.key (l.drop j)).2) = visL l seq := by rw [hdrop] at hvis ⊢; exact hvis
      -- the loop of one key
      refine t_while (fun m f O' w' => Rel x O w O' w' ∧ f 0 = v ∧ f 1 = .int .i64 seq ∧ f 6 = s ∧ f 8 = .string ej.key ∧ ∃ i : Nat, f 7 = .int .i64 (i : Int) ∧ m = l.length - i ∧ i ≤ l.length ∧ j ≤ i ∧ (i = j ∨ j < i) ∧ (i = j → keyIs ej.key ej = true) ∧ out ++ ((visIn seq ej.key (l.drop i)).1 ++ visF seq n' (visIn seq ej.key (l.drop i)).2) = visL l seq ∧ Buf 2 x O' w' mb s (out.map Pr.cells))
        (l.length - j) ⟨r1, hf0, hf1, hf6, rfl, j, hf7, rfl, by omega, Nat.le_refl _, .inl rfl, fun _ => by simp [keyIs], hvis', hbuf⟩ ?_
      clear hbuf
      rintro m2 f O2 w2 ⟨r2, hf0, hf1, hf6, hf8, i, hf7, hm2, hi, hji, hij, hkj, hvi, hbuf⟩ ih2
      have hv2 := hv.rely r2
      have hl2 := hv2.len
      have hw2 : IntKind.i64.wrap ((i : Int) + 1) = ((i + 1 : Nat) : Int) := by rw [wrap64] <;> omega
      -- on to the next key
      have goOut : ∀ (i' : Nat) (out' : List Pr) (mb' : Nat) (s' : Value) (f' : Nat → Value) (O' : Gh) (w' : World), Rel x O w O' w' → f' 0 = v → f' 1 = .int .i64 seq → f' 6 = s' → f' 7 = .int .i64 (i' : Int) → i' ≤ l.length → j < i' → out'.length ≤ j + 1 → w.heap.size ≤ mb' → Buf 2 x O' w' mb' s' (out'.map Pr.cells) →
          out' ++ visF seq n' (l.drop i') = visL l seq → Tree P x St O' (G (Fr (base 17) 75 f' [] [.inLoop (loopA17), .inBlock 0, .code (tlC (tlC (tlC (tlC scope17)))), .inScope scope17]) (c :: cs)) w' := by
        intro i' out' mb' s' f' O' w' r' g0 g1 g6 g7 hi' hji' hol' hmb' hb' hv'
        refine t_inLoop ?_
        exact ih (l.length - i') _ O' w' (by omega) ⟨r', g0, g1, i', n', mb', s', out', g7, g6, rfl, hi', by omega, by omega, hv', hmb', hb'⟩
      refine t_seq ?_
      refine t_seq ?_
      refine t_region ?_
      by_cases hilt : i < l.length
      · have hd : decide ((i : Int) < (l.length : Int)) = true := decide_eq_true (by omega)
        have hdrop2 := List.drop_eq_getElem_cons hilt
        generalize hkE2 : l[i] = ei at hdrop2
        have hei : l[i]? = some ei := by rw [List.getElem?_eq_getElem hilt, hkE2]
        obtain ⟨B, hB⟩ := hv2.at hei
        have iB := hB.idx
        have fB := hB.f0
        have gB := hB.f1
        have dB := hB.f2
        have vB := hB.f3
        have sB := idx_spot hv2 iB
        have b0 : B.add 0 = B := a0 B sB
        have bk : ∀ k, B.add k = ⟨B.block, B.off + k, none⟩ := fun k => by obtain ⟨bb, bo, bs⟩ := B; simp only at sB; subst sB; exact add_none _ _ _
        have b1 := bk 1
        have b2 := bk 2
        have b3 := bk 3
        have hfe : f 8 = .string ej.key := hf8
        cases hke : (ei.key.toList == ej.key.toList) with
        | false =>
          have hne : i ≠ j := by
            intro e
            have : ei = ej := by subst e; rw [hej] at hei; exact (Option.some.inj hei).symm
            rw [this] at hke; simp at hke
          have hvf : visIn seq ej.key (l.drop i) = ([], l.drop i) := by
            rw [hdrop2]; unfold visIn keyIs; rw [hke]; rfl
          repeat (first
            | (refine t_skG rfl (by decide) rfl ?_)
            | (refine t_skU rfl (by decide) rfl ?_)
            | (first | refine t_rdG (by decide) rfl (by decide) rfl (fun K hK => ?_) | refine t_rd (by decide) (fun K hK => ?_)
               simp only [Xa, Xb, Xc, Xd, Xe, Xf, Xg, Xh, Xi, Xj, Xk, Xl, Xm, Xn, Xo, Xp, Xq, Xr, Xs, Xt, Xu, Xv, Xw, Xx, Xy, Xz, XA, XB, XD, XE, XF, XG, XH, XI, ev, XJ, upd, args1, args2, args3, args4, XK, XL, XM, extL, XN, XO, XP, XQ, XR, XT, XU, XV, XW, XX, XY, XZ, X0, X1, X2, X3, Addr.add, ↓reduceIte, Nat.reduceLT, Nat.reduceEqDiff, Nat.zero_add, Nat.reduceAdd, Option.map_some, X4, List.getElem_toArray, List.getElem_cons_zero, List.getElem_cons_succ, hf0, hf7, hf8, hl2, hd, iB, b0, fB, hke]
               refine hK _ ?_
               clear hK K))
          refine t_done ?_
          refine t_false rfl ?_
          refine t_exit rfl ?_
          refine t_inBlock ?_
          rw [hvf] at hvi
          exact goOut i out mb s _ O2 w2 r2 hf0 hf1 hf6 hf7 hi (by omega) (by omega) hmb hbuf hvi
        | true =>
          have hkt : keyIs ej.key ei = true := hke
          repeat (first
            | (refine t_skG rfl (by decide) rfl ?_)
            | (refine t_skU rfl (by decide) rfl ?_)
            | (first | refine t_rdG (by decide) rfl (by decide) rfl (fun K hK => ?_) | refine t_rd (by decide) (fun K hK => ?_)
               simp only [Xa, Xb, Xc, Xd, Xe, Xf, Xg, Xh, Xi, Xj, Xk, Xl, Xm, Xn, Xo, Xp, Xq, Xr, Xs, Xt, Xu, Xv, Xw, Xx, Xy, Xz, XA, XB, XD, XE, XF, XG, XH, XI, ev, XJ, upd, args1, args2, args3, args4, XK, XL, XM, extL, XN, XO, XP, XQ, XR, XT, XU, XV, XW, XX, XY, XZ, X0, X1, X2, X3, Addr.add, ↓reduceIte, Nat.reduceLT, Nat.reduceEqDiff, Nat.zero_add, Nat.reduceAdd, Option.map_some, X4, List.getElem_toArray, List.getElem_cons_zero, List.getElem_cons_succ, hf0, hf7, hf8, hl2, hd, iB, b0, fB, hke]
               refine hK _ ?_
               clear hK K))
          refine t_done ?_
          refine t_true rfl ?_
          refine t_skip ?_
          refine t_seq ?_
          refine t_block ?_
          refine t_seq ?_
          refine t_seq ?_
          refine t_region ?_
          by_cases hsq : seq < ei.seq
          · have hd3 : decide (seq < ei.seq) = true := decide_eq_true hsq
            have hvf : visIn seq ej.key (l.drop i) = visIn seq ej.key (l.drop (i + 1)) := by
              rw [hdrop2]; conv => lhs; unfold visIn
              rw [hkt, if_pos rfl, if_pos hsq]
            repeat (first
              | (refine t_skG rfl (by decide) rfl ?_)
              | (refine t_skU rfl (by decide) rfl ?_)
              | (first | refine t_rdG (by decide) rfl (by decide) rfl (fun K hK => ?_) | refine t_rd (by decide) (fun K hK => ?_)
                 simp only [Xa, Xb, Xc, Xd, Xe, Xf, Xg, Xh, Xi, Xj, Xk, Xl, Xm, Xn, Xo, Xp, Xq, Xr, Xs, Xt, Xu, Xv, Xw, Xx, Xy, Xz, XA, XB, XD, XE, XF, XG, XH, XI, ev, XJ, upd, args1, args2, args3, args4, XK, XL, XM, extL, XN, XO, XP, XQ, XR, XT, XU, XV, XW, XX, XY, XZ, X0, X1, X2, X3, Addr.add, ↓reduceIte, Nat.reduceLT, Nat.reduceEqDiff, Nat.zero_add, Nat.reduceAdd, Option.map_some, X4, List.getElem_toArray, List.getElem_cons_zero, List.getElem_cons_succ, hf0, hf1, hf7, iB, b1, gB, hd3]
                 refine hK _ ?_
                 clear hK K))
            refine t_done ?_
            refine t_true rfl ?_
            refine t_exit rfl ?_
            refine t_region ?_
            repeat (first
              | (refine t_skG rfl (by decide) rfl ?_)
              | (refine t_skU rfl (by decide) rfl ?_)
              | (first | refine t_rdG (by decide) rfl (by decide) rfl (fun K hK => ?_) | refine t_rd (by decide) (fun K hK => ?_)
                 simp only [Xa, Xb, Xc, Xd, Xe, Xf, Xg, Xh, Xi, Xj, Xk, Xl, Xm, Xn, Xo, Xp, Xq, Xr, Xs, Xt, Xu, Xv, Xw, Xx, Xy, Xz, XA, XB, XD, XE, XF, XG, XH, XI, ev, XJ, upd, args1, args2, args3, args4, XK, XL, XM, extL, XN, XO, XP, XQ, XR, XT, XU, XV, XW, XX, XY, XZ, X0, X1, X2, X3, Addr.add, ↓reduceIte, Nat.reduceLT, Nat.reduceEqDiff, Nat.zero_add, Nat.reduceAdd, Option.map_some, X4, List.getElem_toArray, List.getElem_cons_zero, List.getElem_cons_succ, hf7, hw2]
                 refine hK _ ?_
                 clear hK K))
            refine t_done ?_
            refine t_inLoop ?_
            rw [hvf] at hvi
            exact ih2 (l.length - (i + 1)) _ O2 w2 (by omega) ⟨r2, hf0, hf1, hf6, hf8, i + 1, rfl, rfl, by omega, by omega, .inr (by omega), fun e => by omega, hvi, hbuf⟩
          · have hd3 : decide (seq < ei.seq) = false := decide_eq_false hsq
            have hvf : visIn seq ej.key (l.drop i) = ((if ei.del then [] else [⟨ej.key, ei.val⟩]), (l.drop i).dropWhile (keyIs ej.key)) := by
              rw [hdrop2]; conv => lhs; unfold visIn
              rw [hkt, if_pos rfl, if_neg hsq]
            rw [hvf] at hvi
            repeat (first
              | (refine t_skG rfl (by decide) rfl ?_)
              | (refine t_skU rfl (by decide) rfl ?_)
              | (first | refine t_rdG (by decide) rfl (by decide) rfl (fun K hK => ?_) | refine t_rd (by decide) (fun K hK => ?_)
                 simp only [Xa, Xb, Xc, Xd, Xe, Xf, Xg, Xh, Xi, Xj, Xk, Xl, Xm, Xn, Xo, Xp, Xq, Xr, Xs, Xt, Xu, Xv, Xw, Xx, Xy, Xz, XA, XB, XD, XE, XF, XG, XH, XI, ev, XJ, upd, args1, args2, args3, args4, XK, XL, XM, extL, XN, XO, XP, XQ, XR, XT, XU, XV, XW, XX, XY, XZ, X0, X1, X2, X3, Addr.add, ↓reduceIte, Nat.reduceLT, Nat.reduceEqDiff, Nat.zero_add, Nat.reduceAdd, Option.map_some, X4, List.getElem_toArray, List.getElem_cons_zero, List.getElem_cons_succ, hf0, hf1, hf7, iB, b1, gB, hd3]
                 refine hK _ ?_
                 clear hK K))
            refine t_done ?_
            refine t_false rfl ?_
            refine t_skip ?_
            -- the key's other entries are left
            have skipLoop : ∀ (out' : List Pr) (mb' : Nat) (s' : Value) (f' : Nat → Value) (O' : Gh) (w' : World), Rel x O w O' w' → f' 0 = v → f' 1 = .int .i64 seq → f' 6 = s' → f' 8 = .string ej.key → f' 7 = .int .i64 (i : Int) → out'.length ≤ j + 1 → w.heap.size ≤ mb' → Buf 2 x O' w' mb' s' (out'.map Pr.cells) →
                out' ++ visF seq n' ((l.drop i).dropWhile (keyIs ej.key)) = visL l seq → Tree P x St O' (G (Fr (base 17) 75 f' [] [.code rest12v, .inBlock 3, .code (tlC (tlC loopB17)), .inLoop loopB17, .inBlock 2, .inBlock 1, .inLoop (loopA17), .inBlock 0, .code (tlC (tlC (tlC (tlC scope17)))), .inScope scope17]) (c :: cs)) w' := by
              intro out' mb' s' f' O' w' r' g0 g1 g6 g8 g7 hol' hmb' hb' hv'
              refine t_seq ?_
              refine t_block ?_
              refine t_loop ?_
              refine t_while (fun m f O' w' => Rel x O w O' w' ∧ f 0 = v ∧ f 1 = .int .i64 seq ∧ f 6 = s' ∧ f 8 = .string ej.key ∧ ∃ i2 : Nat, f 7 = .int .i64 (i2 : Int) ∧ m = l.length - i2 ∧ i2 ≤ l.length ∧ i ≤ i2 ∧ out' ++ visF seq n' ((l.drop i2).dropWhile (keyIs ej.key)) = visL l seq ∧ Buf 2 x O' w' mb' s' (out'.map Pr.cells))
                (l.length - i) ⟨r', g0, g1, g6, g8, i, g7, rfl, by omega, Nat.le_refl _, hv', hb'⟩ ?_
              clear hb' r' g0 g1 g6 g8 g7 hv'
              rintro m3 f3 O3 w3 ⟨r3, g0, g1, g6, g8, i2, g7, hm3, hi2, hii2, hv', hb'⟩ ih3
              have hv3 := hv.rely r3
              have hl3 := hv3.len
              have hw3 : IntKind.i64.wrap ((i2 : Int) + 1) = ((i2 + 1 : Nat) : Int) := by rw [wrap64] <;> omega
              refine t_seq ?_
              refine t_seq ?_
              refine t_region ?_
              by_cases hi2lt : i2 < l.length
              · have hd4 : decide ((i2 : Int) < (l.length : Int)) = true := decide_eq_true (by omega)
                have hdrop3 := List.drop_eq_getElem_cons hi2lt
                generalize hkE3 : l[i2] = e2 at hdrop3
                have he2 : l[i2]? = some e2 := by rw [List.getElem?_eq_getElem hi2lt, hkE3]
                obtain ⟨C, hC⟩ := hv3.at he2
                have iC := hC.idx
                have fC := hC.f0
                cases hke2 : (e2.key.toList == ej.key.toList) with
                | false =>
                  have hne2 : i2 ≠ i := by
                    intro e
                    have : e2 = ei := by subst e; rw [hei] at he2; exact (Option.some.inj he2).symm
                    rw [this, hke] at hke2; cases hke2
                  have hdw : (l.drop i2).dropWhile (keyIs ej.key) = l.drop i2 := by
                    rw [hdrop3, List.dropWhile_cons_of_neg]
                    unfold keyIs; rw [hke2]; simp
                  rw [hdw] at hv'
                  repeat (first
                    | (refine t_skG rfl (by decide) rfl ?_)
                    | (refine t_skU rfl (by decide) rfl ?_)
                    | (first | refine t_rdG (by decide) rfl (by decide) rfl (fun K hK => ?_) | refine t_rd (by decide) (fun K hK => ?_)
                       simp only [Xa, Xb, Xc, Xd, Xe, Xf, Xg, Xh, Xi, Xj, Xk, Xl, Xm, Xn, Xo, Xp, Xq, Xr, Xs, Xt, Xu, Xv, Xw, Xx, Xy, Xz, XA, XB, XD, XE, XF, XG, XH, XI, ev, XJ, upd, args1, args2, args3, args4, XK, XL, XM, extL, XN, XO, XP, XQ, XR, XT, XU, XV, XW, XX, XY, XZ, X0, X1, X2, X3, Addr.add, ↓reduceIte, Nat.reduceLT, Nat.reduceEqDiff, Nat.zero_add, Nat.reduceAdd, Option.map_some, X4, List.getElem_toArray, List.getElem_cons_zero, List.getElem_cons_succ, g0, g7, g8, hl3, hd4, iC, fC, hke2]
                       refine hK _ ?_
                       clear hK K))
                  refine t_done ?_
                  refine t_false rfl ?_
                  refine t_exit rfl ?_
                  refine t_exit rfl ?_
                  exact goOut i2 out' mb' s' _ O3 w3 r3 g0 g1 g6 g7 hi2 (by omega) hol' hmb' hb' hv'
                | true =>
                  have hdw : (l.drop i2).dropWhile (keyIs ej.key) = (l.drop (i2 + 1)).dropWhile (keyIs ej.key) := by
                    rw [hdrop3, List.dropWhile_cons_of_pos (show keyIs ej.key e2 = true from hke2)]
                  rw [hdw] at hv'
                  repeat (first
                    | (refine t_skG rfl (by decide) rfl ?_)
                    | (refine t_skU rfl (by decide) rfl ?_)
                    | (first | refine t_rdG (by decide) rfl (by decide) rfl (fun K hK => ?_) | refine t_rd (by decide) (fun K hK => ?_)
                       simp only [Xa, Xb, Xc, Xd, Xe, Xf, Xg, Xh, Xi, Xj, Xk, Xl, Xm, Xn, Xo, Xp, Xq, Xr, Xs, Xt, Xu, Xv, Xw, Xx, Xy, Xz, XA, XB, XD, XE, XF, XG, XH, XI, ev, XJ, upd, args1, args2, args3, args4, XK, XL, XM, extL, XN, XO, XP, XQ, XR, XT, XU, XV, XW, XX, XY, XZ, X0, X1, X2, X3, Addr.add, ↓reduceIte, Nat.reduceLT, Nat.reduceEqDiff, Nat.zero_add, Nat.reduceAdd, Option.map_some, X4, List.getElem_toArray, List.getElem_cons_zero, List.getElem_cons_succ, g0, g7, g8, hl3, hd4, iC, fC, hke2]
                       refine hK _ ?_
                       clear hK K))
                  refine t_done ?_
                  refine t_true rfl ?_
                  refine t_skip ?_
                  refine t_block ?_
                  refine t_region ?_
                  repeat (first
                    | (refine t_skG rfl (by decide) rfl ?_)
                    | (refine t_skU rfl (by decide) rfl ?_)
                    | (first | refine t_rdG (by decide) rfl (by decide) rfl (fun K hK => ?_) | refine t_rd (by decide) (fun K hK => ?_)
                       simp only [Xa, Xb, Xc, Xd, Xe, Xf, Xg, Xh, Xi, Xj, Xk, Xl, Xm, Xn, Xo, Xp, Xq, Xr, Xs, Xt, Xu, Xv, Xw, Xx, Xy, Xz, XA, XB, XD, XE, XF, XG, XH, XI, ev, XJ, upd, args1, args2, args3, args4, XK, XL, XM, extL, XN, XO, XP, XQ, XR, XT, XU, XV, XW, XX, XY, XZ, X0, X1, X2, X3, Addr.add, ↓reduceIte, Nat.reduceLT, Nat.reduceEqDiff, Nat.zero_add, Nat.reduceAdd, Option.map_some, X4, List.getElem_toArray, List.getElem_cons_zero, List.getElem_cons_succ, g7, hw3]
                       refine hK _ ?_
                       clear hK K))
                  refine t_done ?_
                  refine t_inBlock ?_
                  refine t_inLoop ?_
                  exact ih3 (l.length - (i2 + 1)) _ O3 w3 (by omega) ⟨r3, g0, g1, g6, g8, i2 + 1, rfl, rfl, by omega, by omega, hv', hb'⟩
              · have hd4 : decide ((i2 : Int) < (l.length : Int)) = false := decide_eq_false (by omega)
                have hdw : (l.drop i2).dropWhile (keyIs ej.key) = l.drop i2 := by
                  rw [List.drop_of_length_le (by omega)]; rfl
                rw [hdw] at hv'
                repeat (first
                  | (refine t_skG rfl (by decide) rfl ?_)
                  | (refine t_skU rfl (by decide) rfl ?_)
                  | (first | refine t_rdG (by decide) rfl (by decide) rfl (fun K hK => ?_) | refine t_rd (by decide) (fun K hK => ?_)
                     simp only [Xa, Xb, Xc, Xd, Xe, Xf, Xg, Xh, Xi, Xj, Xk, Xl, Xm, Xn, Xo, Xp, Xq, Xr, Xs, Xt, Xu, Xv, Xw, Xx, Xy, Xz, XA, XB, XD, XE, XF, XG, XH, XI, ev, XJ, upd, args1, args2, args3, args4, XK, XL, XM, extL, XN, XO, XP, XQ, XR, XT, XU, XV, XW, XX, XY, XZ, X0, X1, X2, X3, Addr.add, ↓reduceIte, Nat.reduceLT, Nat.reduceEqDiff, Nat.zero_add, Nat.reduceAdd, Option.map_some, X4, List.getElem_toArray, List.getElem_cons_zero, List.getElem_cons_succ, g0, g7, hl3, hd4]
                     refine hK _ ?_
                     clear hK K))
                refine t_done ?_
                refine t_false rfl ?_
                refine t_exit rfl ?_
                refine t_exit rfl ?_
                exact goOut i2 out' mb' s' _ O3 w3 r3 g0 g1 g6 g7 hi2 (by omega) hol' hmb' hb' hv'
            refine t_seq ?_
            refine t_seq ?_
            refine t_region ?_
            cases hdl : ei.del with
            | true =>
              rw [hdl] at dB hvi
              repeat (first
                | (refine t_skG rfl (by decide) rfl ?_)
                | (refine t_skU rfl (by decide) rfl ?_)
                | (first | refine t_rdG (by decide) rfl (by decide) rfl (fun K hK => ?_) | refine t_rd (by decide) (fun K hK => ?_)
                   simp only [Xa, Xb, Xc, Xd, Xe, Xf, Xg, Xh, Xi, Xj, Xk, Xl, Xm, Xn, Xo, Xp, Xq, Xr, Xs, Xt, Xu, Xv, Xw, Xx, Xy, Xz, XA, XB, XD, XE, XF, XG, XH, XI, ev, XJ, upd, args1, args2, args3, args4, XK, XL, XM, extL, XN, XO, XP, XQ, XR, XT, XU, XV, XW, XX, XY, XZ, X0, X1, X2, X3, Addr.add, ↓reduceIte, Nat.reduceLT, Nat.reduceEqDiff, Nat.zero_add, Nat.reduceAdd, Option.map_some, X4, List.getElem_toArray, List.getElem_cons_zero, List.getElem_cons_succ, hf0, hf7, iB, b2, dB]
                   refine hK _ ?_
                   clear hK K))
              refine t_done ?_
              refine t_false rfl ?_
              refine t_skip ?_
              refine skipLoop out mb s _ O2 w2 r2 hf0 hf1 hf6 hf8 hf7 (by omega) hmb hbuf ?_
              simpa using hvi
            | false =>
              rw [hdl] at dB hvi
              repeat (first
                | (refine t_skG rfl (by decide) rfl ?_)
                | (refine t_skU rfl (by decide) rfl ?_)
                | (first | refine t_rdG (by decide) rfl (by decide) rfl (fun K hK => ?_) | refine t_rd (by decide) (fun K hK => ?_)
                   simp only [Xa, Xb, Xc, Xd, Xe, Xf, Xg, Xh, Xi, Xj, Xk, Xl, Xm, Xn, Xo, Xp, Xq, Xr, Xs, Xt, Xu, Xv, Xw, Xx, Xy, Xz, XA, XB, XD, XE, XF, XG, XH, XI, ev, XJ, upd, args1, args2, args3, args4, XK, XL, XM, extL, XN, XO, XP, XQ, XR, XT, XU, XV, XW, XX, XY, XZ, X0, X1, X2, X3, Addr.add, ↓reduceIte, Nat.reduceLT, Nat.reduceEqDiff, Nat.zero_add, Nat.reduceAdd, Option.map_some, X4, List.getElem_toArray, List.getElem_cons_zero, List.getElem_cons_succ, hf0, hf7, iB, b2, dB]
                   refine hK _ ?_
                   clear hK K))
              refine t_done ?_
              refine t_true rfl ?_
              refine t_region ?_
              iterate 7 (first
                | (refine t_skG rfl (by decide) rfl ?_)
                | (refine t_skU rfl (by decide) rfl ?_)
                | (first | refine t_rdG (by decide) rfl (by decide) rfl (fun K hK => ?_) | refine t_rd (by decide) (fun K hK => ?_)
                   simp only [Xa, Xb, Xc, Xd, Xe, Xf, Xg, Xh, Xi, Xj, Xk, Xl, Xm, Xn, Xo, Xp, Xq, Xr, Xs, Xt, Xu, Xv, Xw, Xx, Xy, Xz, XA, XB, XD, XE, XF, XG, XH, XI, ev, XJ, upd, args1, args2, args3, args4, XK, XL, XM, extL, XN, XO, XP, XQ, XR, XT, XU, XV, XW, XX, XY, XZ, X0, X1, X2, X3, Addr.add, ↓reduceIte, Nat.reduceLT, Nat.reduceEqDiff, Nat.zero_add, Nat.reduceAdd, Option.map_some, X4, List.getElem_toArray, List.getElem_cons_zero, List.getElem_cons_succ, hf0, hf6, hf7, hf8, iB, b3, vB]
                   refine hK _ ?_
                   clear hK K))
              refine t_val (by decide) (x_build50 (a := ej.key) (b := ei.val) _ _ (by simp only [Xa, Xb, Xc, Xd, Xe, Xf, Xg, Xh, Xi, Xj, Xk, Xl, Xm, Xn, Xo, Xp, Xq, Xr, Xs, Xt, Xu, Xv, Xw, Xx, Xy, Xz, XA, XB, XD, XE, XF, XG, XH, XI, ev, XJ, upd, args1, args2, args3, args4, XK, XL, XM, extL, XN, XO, XP, XQ, XR, XT, XU, XV, XW, XX, XY, XZ, X0, X1, X2, X3, Addr.add, ↓reduceIte, Nat.reduceLT, Nat.reduceEqDiff, Nat.zero_add, Nat.reduceAdd, Option.map_some, X4, List.getElem_toArray, List.getElem_cons_zero, List.getElem_cons_succ]) (by simp only [Xa, Xb, Xc, Xd, Xe, Xf, Xg, Xh, Xi, Xj, Xk, Xl, Xm, Xn, Xo, Xp, Xq, Xr, Xs, Xt, Xu, Xv, Xw, Xx, Xy, Xz, XA, XB, XD, XE, XF, XG, XH, XI, ev, XJ, upd, args1, args2, args3, args4, XK, XL, XM, extL, XN, XO, XP, XQ, XR, XT, XU, XV, XW, XX, XY, XZ, X0, X1, X2, X3, Addr.add, ↓reduceIte, Nat.reduceLT, Nat.reduceEqDiff, Nat.zero_add, Nat.reduceAdd, Option.map_some, X4, List.getElem_toArray, List.getElem_cons_zero, List.getElem_cons_succ])) ?_
              refine t_buildSlice (sz := 2) (cells := Pr.cells ⟨ej.key, ei.val⟩) (pv := #[(0, Pr.v ⟨ej.key, ei.val⟩)]) Try.underlying39 rfl (by decide) zero50 (by decide) (by simp only [List.map_toArray, List.map_cons, List.map_nil, Xa, Xb, Xc, Xd, Xe, Xf, Xg, Xh, Xi, Xj, Xk, Xl, Xm, Xn, Xo, Xp, Xq, Xr, Xs, Xt, Xu, Xv, Xw, Xx, Xy, Xz, XA, XB, XD, XE, XF, XG, XH, XI, ev, XJ, upd, args1, args2, args3, args4, XK, XL, XM, extL, XN, XO, XP, XQ, XR, XT, XU, XV, XW, XX, XY, XZ, X0, X1, X2, X3, Addr.add, ↓reduceIte, Nat.reduceLT, Nat.reduceEqDiff, Nat.zero_add, Nat.reduceAdd, Option.map_some, X4, List.getElem_toArray, List.getElem_cons_zero, List.getElem_cons_succ]) (fun c0 h0 => by
                rw [fill_one (off := 0) (sz := 2) rfl rfl (by simp at h0; omega), Instr.fill]
                have : c0.toList.drop 2 = [] := List.drop_eq_nil_iff.2 (by simp; omega)
                simp [this, Value.cells, Pr.v]) ?_
              intro mq Oq wq hq
              have hsq : Sl 2 (ldOf x Oq wq) (.slice (some ⟨mq, 0, none⟩) 1 1) [Pr.cells ⟨ej.key, ei.val⟩] := hq.one
              refine t_append Try.underlying39 rfl rfl rfl (by decide) (by decide) (by decide) zero50 rfl (by decide) rfl rfl (hbuf.rely hq.rel) hsq (by simp; omega) (fun a ha => prcells_ok [⟨ej.key, ei.val⟩] a (by simpa using ha)) ?_
              intro Or wr m' s' Ot wt rr hmt hbuft hmm
              repeat (first
                | (refine t_skG rfl (by decide) rfl ?_)
                | (refine t_skU rfl (by decide) rfl ?_)
                | (first | refine t_rdG (by decide) rfl (by decide) rfl (fun K hK => ?_) | refine t_rd (by decide) (fun K hK => ?_)
                   simp only [Xa, Xb, Xc, Xd, Xe, Xf, Xg, Xh, Xi, Xj, Xk, Xl, Xm, Xn, Xo, Xp, Xq, Xr, Xs, Xt, Xu, Xv, Xw, Xx, Xy, Xz, XA, XB, XD, XE, XF, XG, XH, XI, ev, XJ, upd, args1, args2, args3, args4, XK, XL, XM, extL, XN, XO, XP, XQ, XR, XT, XU, XV, XW, XX, XY, XZ, X0, X1, X2, X3, Addr.add, ↓reduceIte, Nat.reduceLT, Nat.reduceEqDiff, Nat.zero_add, Nat.reduceAdd, Option.map_some, X4, List.getElem_toArray, List.getElem_cons_zero, List.getElem_cons_succ]
                   refine hK _ ?_
                   clear hK K))
              refine t_done ?_
              have rqr := (r2.trans hq.rel).trans rr
              refine skipLoop (out ++ [⟨ej.key, ei.val⟩]) m' s' _ Ot wt (rqr.mod hmt hmb) hf0 hf1 rfl hf8 hf7 (by simp; omega) ?_ (by rw [List.map_append]; exact hbuft) ?_
              · rcases hmm with rfl | ⟨hmm, _⟩
                · exact hmb
                · exact Nat.le_trans rqr.size hmm
              · simpa using hvi
      · have hd : decide ((i : Int) < (l.length : Int)) = false := decide_eq_false (by omega)
        have hvf : visIn seq ej.key (l.drop i) = ([], l.drop i) := by
          rw [List.drop_of_length_le (by omega)]; rfl
        repeat (first
          | (refine t_skG rfl (by decide) rfl ?_)
          | (refine t_skU rfl (by decide) rfl ?_)
          | (first | refine t_rdG (by decide) rfl (by decide) rfl (fun K hK => ?_) | refine t_rd (by decide) (fun K hK => ?_)
             simp only [Xa, Xb, Xc, Xd, Xe, Xf, Xg, Xh, Xi, Xj, Xk, Xl, Xm, Xn, Xo, Xp, Xq, Xr, Xs, Xt, Xu, Xv, Xw, Xx, Xy, Xz, XA, XB, XD, XE, XF, XG, XH, XI, ev, XJ, upd, args1, args2, args3, args4, XK, XL, XM, extL, XN, XO, XP, XQ, XR, XT, XU, XV, XW, XX, XY, XZ, X0, X1, X2, X3, Addr.add, ↓reduceIte, Nat.reduceLT, Nat.reduceEqDiff, Nat.zero_add, Nat.reduceAdd, Option.map_some, X4, List.getElem_toArray, List.getElem_cons_zero, List.getElem_cons_succ, hf0, hf7, hl2, hd]
             refine hK _ ?_
             clear hK K))
        refine t_done ?_
        refine t_false rfl ?_
        refine t_exit rfl ?_
        refine t_inBlock ?_
        rw [hvf] at hvi
        exact goOut i out mb s _ O2 w2 r2 hf0 hf1 hf6 hf7 hi (by omega) (by omega) hmb hbuf hvi
    · have hd : decide ((j : Int) < (l.length : Int)) = false := decide_eq_false (by omega)
      repeat (first
        | (refine t_skG rfl (by decide) rfl ?_)
        | (refine t_skU rfl (by decide) rfl ?_)
        | (first | refine t_rdG (by decide) rfl (by decide) rfl (fun K hK => ?_) | refine t_rd (by decide) (fun K hK => ?_)
           simp only [Xa, Xb, Xc, Xd, Xe, Xf, Xg, Xh, Xi, Xj, Xk, Xl, Xm, Xn, Xo, Xp, Xq, Xr, Xs, Xt, Xu, Xv, Xw, Xx, Xy, Xz, XA, XB, XD, XE, XF, XG, XH, XI, ev, XJ, upd, args1, args2, args3, args4, XK, XL, XM, extL, XN, XO, XP, XQ, XR, XT, XU, XV, XW, XX, XY, XZ, X0, X1, X2, X3, Addr.add, ↓reduceIte, Nat.reduceLT, Nat.reduceEqDiff, Nat.zero_add, Nat.reduceAdd, Option.map_some, X4, List.getElem_toArray, List.getElem_cons_zero, List.getElem_cons_succ, hf0, hf7, hl, hd]
           refine hK _ ?_
           clear hK K))
      refine t_done ?_
      refine t_false rfl ?_
      refine t_exit rfl ?_
      refine t_seq ?_
      refine t_region ?_
      repeat (first
        | (refine t_skG rfl (by decide) rfl ?_)
        | (refine t_skU rfl (by decide) rfl ?_)
        | (first | refine t_rdG (by decide) rfl (by decide) rfl (fun K hK => ?_) | refine t_rd (by decide) (fun K hK => ?_)
           simp only [Xa, Xb, Xc, Xd, Xe, Xf, Xg, Xh, Xi, Xj, Xk, Xl, Xm, Xn, Xo, Xp, Xq, Xr, Xs, Xt, Xu, Xv, Xw, Xx, Xy, Xz, XA, XB, XD, XE, XF, XG, XH, XI, ev, XJ, upd, args1, args2, args3, args4, XK, XL, XM, extL, XN, XO, XP, XQ, XR, XT, XU, XV, XW, XX, XY, XZ, X0, X1, X2, X3, Addr.add, ↓reduceIte, Nat.reduceLT, Nat.reduceEqDiff, Nat.zero_add, Nat.reduceAdd, Option.map_some, X4, List.getElem_toArray, List.getElem_cons_zero, List.getElem_cons_succ, hf6]
           refine hK _ ?_
           clear hK K))
      refine t_done ?_
      refine t_ret ?_
      refine t_leave2 rfl Try.func17 Try.results17 ?_
      have e0 : visF seq n (l.drop j) = [] := by rw [List.drop_of_length_le (by omega)]; cases n <;> rfl
      rw [e0, List.append_nil] at hvis
      rw [← hvis] at h
      exact h O1 w1 mb s r1 hbuf
end Go.Proofs.Ytdajdembeacefaa.M

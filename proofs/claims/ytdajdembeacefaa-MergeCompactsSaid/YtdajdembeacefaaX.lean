/-
  Contracts of 'one' and 'cut'.
-/
import Derived.Test.YtdajdembeacefaaW
import Derived.Test.YtdajdembeacefaaU
set_option linter.unusedSimpArgs false
set_option linter.unusedVariables false
namespace Go.Proofs.Ytdajdembeacefaa.M
open Go.Conc

theorem cells_ok (l : List Ent) : ∀ a ∈ l.map Ent.cells, a.size = 4 ∧ ∀ u ∈ a.toList, one? u = true := by
  intro a ha
  obtain ⟨e, _, rfl⟩ := List.mem_map.1 ha
  refine ⟨rfl, fun u hu => ?_⟩
  simp [Ent.cells] at hu
  rcases hu with rfl | rfl | rfl | rfl <;> rfl
theorem zero37 (L : Addr → Option Value) : runL P L (zeroValue 37) = some (.agg #[.string ⟨#[]⟩, .int .i64 0, .bool false, .string ⟨#[]⟩]) := rfl
theorem zero25 (L : Addr → Option Value) : runL P L (zeroValue 25) = some (.slice none 0 0) := rfl
theorem zero50 (L : Addr → Option Value) : runL P L (zeroValue 50) = some (.agg #[.string ⟨#[]⟩, .string ⟨#[]⟩]) := rfl
theorem zero63 (L : Addr → Option Value) : runL P L (zeroValue 63) = some (.pointer none) := rfl

set_option maxHeartbeats 4000000 in
theorem one_M {x : Th} {St : Gh → Goroutine → World → Prop} (l : List Ent) (v : Value) (O : Gh) (w : World) (c : Frame) (cs : List Frame) (hv : SlE (ldOf x O w) v l)
    (h : ∀ O' w' m s, Rel x O w O' w' → w.heap.size ≤ m → m < w'.heap.size → Buf 4 x O' w' m s ((l.take 60).map Ent.cells) → Tree P x St O' (G (c.finish s) cs) w') :
    Tree P x St O (G (Frame.enter P 16 #[v] .normal) (c :: cs)) w := by
  rw [enter1 _ Try.func16 rfl Try.ntmps16 (by decide)]
  have hl := hv.len
  refine t_seq ?_
  refine t_region ?_
  repeat (first
    | (refine t_skG rfl (by decide) rfl ?_)
    | (refine t_skU rfl (by decide) rfl ?_)
    | (first | refine t_rdG (by decide) rfl (by decide) rfl (fun K hK => ?_) | refine t_rd (by decide) (fun K hK => ?_)
       simp only [Xa, Xb, Xc, Xd, Xe, Xf, Xg, Xh, Xi, Xj, Xk, Xl, Xm, Xn, Xo, Xp, Xq, Xr, Xs, Xt, Xu, Xv, Xw, Xx, Xy, Xz, XA, XB, XD, XE, XF, XG, XH, XI, ev, XJ, upd, args1, args2, args3, args4, XK, XL, XM, extL, XN, XO, XP, XQ, XR, XT, XU, XV, XW, XX, XY, XZ, X0, X1, X2, X3, Addr.add, ↓reduceIte, Nat.reduceLT, Nat.reduceEqDiff, Nat.zero_add, Nat.reduceAdd, Option.map_some, X4, List.getElem_toArray, List.getElem_cons_zero, List.getElem_cons_succ]
       refine hK _ ?_
       clear hK K))
  refine t_done ?_
  refine t_seq ?_
  refine t_region ?_
  refine t_buildSlice (cells := #[]) (pv := #[]) Try.underlying25 rfl (by decide) zero37 (by decide) (by simp) (fun c0 h0 => by
    have : c0 = #[] := by simpa using h0
    subst this; rfl) ?_
  intro m1 O1 w1 h1
  have hb1 : Buf 4 x O1 w1 m1 (.slice (some ⟨m1, 0, none⟩) 0 0) [] := ⟨by simp, .inr ⟨0, #[], 37, rfl, h1.tag, h1.obj, rfl, Nat.le_refl _, rfl⟩⟩
  have hv1 := hv.rely h1.rel
  obtain ⟨a, n0, cap, rfl, hcap, hs8⟩ := Sl.take hv1 (min l.length 60) (by simp; omega)
  have e60 : List.take (min l.length 60) (l.map Ent.cells) = (l.take 60).map Ent.cells := by
    rw [← List.map_take, ← List.take_take, List.take_of_length_le (by simp; omega)]
  rw [e60] at hs8
  refine t_rd (by decide) (fun K hK => ?_)
  simp only [Xa, Xb, Xc, Xd, Xe, Xf, Xg, Xh, Xi, Xj, Xk, Xl, Xm, Xn, Xo, Xp, Xq, Xr, Xs, Xt, Xu, Xv, Xw, Xx, Xy, Xz, XA, XB, XD, XE, XF, XG, XH, XI, ev, XJ, upd, args1, args2, args3, args4, XK, XL, XM, extL, XN, XO, XP, XQ, XR, XT, XU, XV, XW, XX, XY, XZ, X0, X1, X2, X3, Addr.add, ↓reduceIte, Nat.reduceLT, Nat.reduceEqDiff, Nat.zero_add, Nat.reduceAdd, Option.map_some, X4, List.getElem_toArray, List.getElem_cons_zero, List.getElem_cons_succ]
  refine hK _ ?_
  clear hK K
  refine t_rd (by decide) (fun K hK => ?_)
  simp only [Xa, Xb, Xc, Xd, Xe, Xf, Xg, Xh, Xi, Xj, Xk, Xl, Xm, Xn, Xo, Xp, Xq, Xr, Xs, Xt, Xu, Xv, Xw, Xx, Xy, Xz, XA, XB, XD, XE, XF, XG, XH, XI, ev, XJ, upd, args1, args2, args3, args4, XK, XL, XM, extL, XN, XO, XP, XQ, XR, XT, XU, XV, XW, XX, XY, XZ, X0, X1, X2, X3, Addr.add, ↓reduceIte, Nat.reduceLT, Nat.reduceEqDiff, Nat.zero_add, Nat.reduceAdd, Option.map_some, X4, List.getElem_toArray, List.getElem_cons_zero, List.getElem_cons_succ]
  refine hK _ ?_
  clear hK K
  refine t_val (v := .int .i64 (l.length : Int)) (by decide) (by simp only [Xa, Xb, Xc, Xd, Xe, Xf, Xg, Xh, Xi, Xj, Xk, Xl, Xm, Xn, Xo, Xp, Xq, Xr, Xs, Xt, Xu, Xv, Xw, Xx, Xy, Xz, XA, XB, XD, XE, XF, XG, XH, XI, ev, XJ, upd, args1, args2, args3, args4, XK, XL, XM, extL, XN, XO, XP, XQ, XR, XT, XU, XV, XW, XX, XY, XZ, X0, X1, X2, X3, Addr.add, ↓reduceIte, Nat.reduceLT, Nat.reduceEqDiff, Nat.zero_add, Nat.reduceAdd, Option.map_some, X4, List.getElem_toArray, List.getElem_cons_zero, List.getElem_cons_succ]; exact hl) ?_
  refine t_val (v := .int .i64 ((min l.length 60 : Nat) : Int)) (by decide) ?_ ?_
  · rw [x_min33 _ _ rfl rfl]
    congr 4
    split <;> omega
  refine t_val (by decide) (x_sliceHi Try.underlying25 rfl _ _ rfl rfl hcap) ?_
  refine t_append Try.underlying25 rfl rfl rfl (by decide) (by decide) (by decide) zero37 rfl (by decide) rfl rfl hb1 hs8 (by simp; omega) (cells_ok _) ?_
  intro O2 w2 m' s' O3 w3 r2 hm hbuf hmm
  rw [List.nil_append] at hbuf
  repeat (first
    | (refine t_skG rfl (by decide) rfl ?_)
    | (refine t_skU rfl (by decide) rfl ?_)
    | (first | refine t_rdG (by decide) rfl (by decide) rfl (fun K hK => ?_) | refine t_rd (by decide) (fun K hK => ?_)
       simp only [Xa, Xb, Xc, Xd, Xe, Xf, Xg, Xh, Xi, Xj, Xk, Xl, Xm, Xn, Xo, Xp, Xq, Xr, Xs, Xt, Xu, Xv, Xw, Xx, Xy, Xz, XA, XB, XD, XE, XF, XG, XH, XI, ev, XJ, upd, args1, args2, args3, args4, XK, XL, XM, extL, XN, XO, XP, XQ, XR, XT, XU, XV, XW, XX, XY, XZ, X0, X1, X2, X3, Addr.add, ↓reduceIte, Nat.reduceLT, Nat.reduceEqDiff, Nat.zero_add, Nat.reduceAdd, Option.map_some, X4, List.getElem_toArray, List.getElem_cons_zero, List.getElem_cons_succ]
       refine hK _ ?_
       clear hK K))
  refine t_done ?_
  refine t_ret ?_
  refine t_leave1 rfl Try.func16 Try.results16 ?_
  have hm1 : m1 < w1.heap.size := (Array.getElem?_eq_some_iff.1 h1.obj).1
  refine h O3 w3 m' s' ((h1.rel.trans r2).mod hm h1.ge) ?_ ?_ hbuf
  · rcases hmm with rfl | ⟨hmm, _⟩
    · exact h1.ge
    · exact Nat.le_trans (Nat.le_trans h1.rel.size r2.size) hmm
  · rcases hmm with rfl | ⟨_, hmm⟩
    · exact Nat.lt_of_lt_of_le hm1 (Nat.le_trans r2.size hm.size)
    · exact hmm

/-- A slice of slices of entries, as known. -/
def Sl2 (L : Addr → Option Value) (v : Value) (ls : List (List Ent)) : Prop :=
  ∃ vs : List Value, Sl 1 L v (vs.map fun u => #[u]) ∧ vs.length = ls.length ∧ ∀ (i : Nat) (u : Value) (l : List Ent), vs[i]? = some u → ls[i]? = some l → SlE L u l
theorem Sl2.mono {L L' : Addr → Option Value} {v : Value} {ls : List (List Ent)} (h : Sl2 L v ls) (hL : ∀ a v, L a = some v → L' a = some v) : Sl2 L' v ls := by
  obtain ⟨vs, h1, h2, h3⟩ := h
  exact ⟨vs, h1.mono hL, h2, fun i u l hu hl => (h3 i u l hu hl).mono hL⟩
theorem Sl2.rely {x : Th} {O O1 : Gh} {w w1 : World} {v : Value} {ls : List (List Ent)} (h : Sl2 (ldOf x O w) v ls) (r : Rel x O w O1 w1) : Sl2 (ldOf x O1 w1) v ls := h.mono fun _ _ h => ldOf_rely r h
theorem Sl2.len {L : Addr → Option Value} {v : Value} {ls : List (List Ent)} (h : Sl2 L v ls) : lenL v = some (.value (.int .i64 ls.length)) := by
  obtain ⟨vs, h1, h2, _⟩ := h
  have := h1.len; rw [List.length_map, h2] at this; exact this
theorem Sl2.at {L : Addr → Option Value} {v : Value} {ls : List (List Ent)} (h : Sl2 L v ls) {i : Nat} {l : List Ent} (hi : ls[i]? = some l) :
    ∃ (A : Addr) (u : Value), idxL 1 v (.int .i64 i) = some (.value (.pointer (some A))) ∧ L A = some u ∧ SlE L u l := by
  obtain ⟨vs, h1, h2, h3⟩ := h
  have hlt := (List.getElem?_eq_some_iff.1 hi).1
  have hv : vs[i]? = some vs[i] := List.getElem?_eq_getElem (by omega)
  rcases h1 with ⟨h, _⟩ | ⟨b, o, c, rfl, hc, h⟩
  · have : vs = [] := by simpa using h
    subst this; simp at hv
  · obtain ⟨_, h⟩ := h i #[vs[i]] (by rw [List.getElem?_map, hv]; rfl)
    have h0 := h 0 (by omega)
    refine ⟨⟨b, o + i * 1, none⟩, vs[i], ?_, by simpa using h0, h3 i _ l hv hi⟩
    rw [List.length_map, idxL_some 1 _ _ _ i _ (by omega), add_none]

theorem slice_one (a : Option Addr) (n c : Nat) : ∀ q ∈ [(#[Value.slice a n c] : Array Value)], q.size = 1 ∧ ∀ u ∈ q.toList, one? u = true := by
  intro q hq
  simp at hq; subst hq
  exact ⟨rfl, fun u hu => by simp at hu; subst hu; rfl⟩
theorem Sl.slice {sz : Nat} {L : Addr → Option Value} {v : Value} {cs : List (Array Value)} (h : Sl sz L v cs) : ∃ a n c, v = .slice a n c := by
  rcases h with ⟨_, a, c, rfl⟩ | ⟨b, o, c, rfl, _⟩ <;> exact ⟨_, _, _, rfl⟩

set_option maxHeartbeats 4000000 in
theorem cut_M {x : Th} {St : Gh → Goroutine → World → Prop} (ls : List (List Ent)) (v : Value) (O : Gh) (w : World) (c : Frame) (cs : List Frame) (hv : Sl2 (ldOf x O w) v ls)
    (h : ∀ O' w' s, Rel x O w O' w' → Sl2 (ldOf x O' w') s ((ls.take 8).map fun l => l.take 60) → Tree P x St O' (G (c.finish s) cs) w') :
    Tree P x St O (G (Frame.enter P 9 #[v] .normal) (c :: cs)) w := by
  rw [enter1 _ Try.func9 rfl Try.ntmps9 (by decide)]
  have hl := hv.len
  refine t_seq ?_
  refine t_region ?_
  repeat (first
    | (refine t_skG rfl (by decide) rfl ?_)
    | (refine t_skU rfl (by decide) rfl ?_)
    | (first | refine t_rdG (by decide) rfl (by decide) rfl (fun K hK => ?_) | refine t_rd (by decide) (fun K hK => ?_)
       simp only [Xa, Xb, Xc, Xd, Xe, Xf, Xg, Xh, Xi, Xj, Xk, Xl, Xm, Xn, Xo, Xp, Xq, Xr, Xs, Xt, Xu, Xv, Xw, Xx, Xy, Xz, XA, XB, XD, XE, XF, XG, XH, XI, ev, XJ, upd, args1, args2, args3, args4, XK, XL, XM, extL, XN, XO, XP, XQ, XR, XT, XU, XV, XW, XX, XY, XZ, X0, X1, X2, X3, Addr.add, ↓reduceIte, Nat.reduceLT, Nat.reduceEqDiff, Nat.zero_add, Nat.reduceAdd, Option.map_some, X4, List.getElem_toArray, List.getElem_cons_zero, List.getElem_cons_succ]
       refine hK _ ?_
       clear hK K))
  refine t_done ?_
  refine t_seq ?_
  refine t_region ?_
  repeat (first
    | (refine t_skG rfl (by decide) rfl ?_)
    | (refine t_skU rfl (by decide) rfl ?_)
    | (first | refine t_rdG (by decide) rfl (by decide) rfl (fun K hK => ?_) | refine t_rd (by decide) (fun K hK => ?_)
       simp only [Xa, Xb, Xc, Xd, Xe, Xf, Xg, Xh, Xi, Xj, Xk, Xl, Xm, Xn, Xo, Xp, Xq, Xr, Xs, Xt, Xu, Xv, Xw, Xx, Xy, Xz, XA, XB, XD, XE, XF, XG, XH, XI, ev, XJ, upd, args1, args2, args3, args4, XK, XL, XM, extL, XN, XO, XP, XQ, XR, XT, XU, XV, XW, XX, XY, XZ, X0, X1, X2, X3, Addr.add, ↓reduceIte, Nat.reduceLT, Nat.reduceEqDiff, Nat.zero_add, Nat.reduceAdd, Option.map_some, X4, List.getElem_toArray, List.getElem_cons_zero, List.getElem_cons_succ]
       refine hK _ ?_
       clear hK K))
  refine t_done ?_
  refine t_seq ?_
  refine t_seq ?_
  refine t_region ?_
  repeat (first
    | (refine t_skG rfl (by decide) rfl ?_)
    | (refine t_skU rfl (by decide) rfl ?_)
    | (first | refine t_rdG (by decide) rfl (by decide) rfl (fun K hK => ?_) | refine t_rd (by decide) (fun K hK => ?_)
       simp only [Xa, Xb, Xc, Xd, Xe, Xf, Xg, Xh, Xi, Xj, Xk, Xl, Xm, Xn, Xo, Xp, Xq, Xr, Xs, Xt, Xu, Xv, Xw, Xx, Xy, Xz, XA, XB, XD, XE, XF, XG, XH, XI, ev, XJ, upd, args1, args2, args3, args4, XK, XL, XM, extL, XN, XO, XP, XQ, XR, XT, XU, XV, XW, XX, XY, XZ, X0, X1, X2, X3, Addr.add, ↓reduceIte, Nat.reduceLT, Nat.reduceEqDiff, Nat.zero_add, Nat.reduceAdd, Option.map_some, X4, List.getElem_toArray, List.getElem_cons_zero, List.getElem_cons_succ]
       refine hK _ ?_
       clear hK K))
  refine t_done ?_
  refine t_block ?_
  refine t_loop ?_
  refine t_while (fun m f O' w' => Rel x O w O' w' ∧ f 0 = v ∧ ∃ (j mb : Nat) (s : Value) (vs : List Value), f 3 = s ∧ f 4 = .int .i64 (j : Int) ∧ m = 8 - j ∧ j ≤ 8 ∧ j ≤ ls.length ∧ w.heap.size ≤ mb ∧ Buf 1 x O' w' mb s (vs.map fun u => #[u]) ∧ vs.length = j ∧
      (vs ≠ [] → mb < w'.heap.size) ∧ (vs = [] → s = .slice none 0 0) ∧
      ∀ (i : Nat) (u : Value) (l : List Ent), vs[i]? = some u → ls[i]? = some l → ∃ mi, Buf 4 x O' w' mi u ((l.take 60).map Ent.cells) ∧ mi ≠ mb ∧ mi < w'.heap.size)
    8 ⟨Rel.refl x O w, rfl, 0, w.heap.size, .slice none 0 0, [], rfl, rfl, rfl, by omega, by omega, Nat.le_refl _, Buf.nil _ _ _ _ _, rfl, fun h => absurd rfl h, fun _ => rfl, fun i u l hu => by simp at hu⟩ ?_
  rintro m f O1 w1 ⟨r1, hf0, j, mb, s, vs, hf3, hf4, hm, hj8, hjl, hmb, hbuf, hvl, hmbl, hnil, hall⟩ ih
  have fin : Sl2 (ldOf x O1 w1) s ((ls.take j).map fun l => l.take 60) := by
    refine ⟨vs, hbuf.sl, by simp [hvl]; omega, fun i u l hu hl => ?_⟩
    rw [List.getElem?_map] at hl
    obtain ⟨l0, hl0, rfl⟩ := Option.map_eq_some_iff.1 hl
    rw [List.getElem?_take] at hl0
    split at hl0
    · obtain ⟨mi, hb, _⟩ := hall i u l0 hu hl0
      exact hb.sl
    · cases hl0
  have hv1 := hv.rely r1
  have hw2 : IntKind.i64.wrap ((j : Int) + 1) = ((j + 1 : Nat) : Int) := by rw [wrap64] <;> omega
  refine t_seq ?_
  refine t_seq ?_
  refine t_region ?_
  by_cases hlt : j < ls.length
  · have hd : decide ((j : Int) < (ls.length : Int)) = true := by simp; omega
    by_cases h8 : j < 8
    · have hd8 : decide ((j : Int) < 8) = true := by simp; omega
      repeat (first
        | (refine t_skG rfl (by decide) rfl ?_)
        | (refine t_skU rfl (by decide) rfl ?_)
        | (first | refine t_rdG (by decide) rfl (by decide) rfl (fun K hK => ?_) | refine t_rd (by decide) (fun K hK => ?_)
           simp only [Xa, Xb, Xc, Xd, Xe, Xf, Xg, Xh, Xi, Xj, Xk, Xl, Xm, Xn, Xo, Xp, Xq, Xr, Xs, Xt, Xu, Xv, Xw, Xx, Xy, Xz, XA, XB, XD, XE, XF, XG, XH, XI, ev, XJ, upd, args1, args2, args3, args4, XK, XL, XM, extL, XN, XO, XP, XQ, XR, XT, XU, XV, XW, XX, XY, XZ, X0, X1, X2, X3, Addr.add, ↓reduceIte, Nat.reduceLT, Nat.reduceEqDiff, Nat.zero_add, Nat.reduceAdd, Option.map_some, X4, List.getElem_toArray, List.getElem_cons_zero, List.getElem_cons_succ, hf0, hf4, hl, hd, hd8]
           refine hK _ ?_
           clear hK K))
      refine t_done ?_
      refine t_true rfl ?_
      refine t_skip ?_
      refine t_seq ?_
      refine t_block ?_
      refine t_region ?_
      obtain ⟨A, u, iA, lA, hu⟩ := hv1.at (List.getElem?_eq_getElem hlt)
      repeat (first
        | (refine t_skG rfl (by decide) rfl ?_)
        | (refine t_skU rfl (by decide) rfl ?_)
        | (first | refine t_rdG (by decide) rfl (by decide) rfl (fun K hK => ?_) | refine t_rd (by decide) (fun K hK => ?_)
           simp only [Xa, Xb, Xc, Xd, Xe, Xf, Xg, Xh, Xi, Xj, Xk, Xl, Xm, Xn, Xo, Xp, Xq, Xr, Xs, Xt, Xu, Xv, Xw, Xx, Xy, Xz, XA, XB, XD, XE, XF, XG, XH, XI, ev, XJ, upd, args1, args2, args3, args4, XK, XL, XM, extL, XN, XO, XP, XQ, XR, XT, XU, XV, XW, XX, XY, XZ, X0, X1, X2, X3, Addr.add, ↓reduceIte, Nat.reduceLT, Nat.reduceEqDiff, Nat.zero_add, Nat.reduceAdd, Option.map_some, X4, List.getElem_toArray, List.getElem_cons_zero, List.getElem_cons_succ, hf0, hf3, hf4, iA, lA]
           refine hK _ ?_
           clear hK K))
      refine t_callA #[u] (by decide) Try.func16 rfl rfl (by simp only [List.map_toArray, List.map_cons, List.map_nil, Xa, Xb, Xc, Xd, Xe, Xf, Xg, Xh, Xi, Xj, Xk, Xl, Xm, Xn, Xo, Xp, Xq, Xr, Xs, Xt, Xu, Xv, Xw, Xx, Xy, Xz, XA, XB, XD, XE, XF, XG, XH, XI, ev, XJ, upd, args1, args2, args3, args4, XK, XL, XM, extL, XN, XO, XP, XQ, XR, XT, XU, XV, XW, XX, XY, XZ, X0, X1, X2, X3, Addr.add, ↓reduceIte, Nat.reduceLT, Nat.reduceEqDiff, Nat.zero_add, Nat.reduceAdd, Option.map_some, X4, List.getElem_toArray, List.getElem_cons_zero, List.getElem_cons_succ]) ?_
      intro c2 hret
      refine one_M _ _ _ _ _ _ hu ?_
      intro O2 w2 m2 s2 r2 hm2 hm2l hb2
      refine hret _ O2 w2 ?_
      clear hret
      obtain ⟨a2, n2, q2, rfl⟩ := hb2.sl.slice
      refine t_buildSlice (sz := 1) (cells := #[.slice a2 n2 q2]) (pv := #[(0, .slice a2 n2 q2)]) Try.underlying22 rfl (by decide) zero25 (by decide) (by simp only [List.map_toArray, List.map_cons, List.map_nil, Xa, Xb, Xc, Xd, Xe, Xf, Xg, Xh, Xi, Xj, Xk, Xl, Xm, Xn, Xo, Xp, Xq, Xr, Xs, Xt, Xu, Xv, Xw, Xx, Xy, Xz, XA, XB, XD, XE, XF, XG, XH, XI, ev, XJ, upd, args1, args2, args3, args4, XK, XL, XM, extL, XN, XO, XP, XQ, XR, XT, XU, XV, XW, XX, XY, XZ, X0, X1, X2, X3, Addr.add, ↓reduceIte, Nat.reduceLT, Nat.reduceEqDiff, Nat.zero_add, Nat.reduceAdd, Option.map_some, X4, List.getElem_toArray, List.getElem_cons_zero, List.getElem_cons_succ]) (fun c0 h0 => by
        rw [fill_one (off := 0) (sz := 1) rfl rfl (by simp at h0; omega), Instr.fill]
        have : c0.toList.drop 1 = [] := List.drop_eq_nil_iff.2 (by simp; omega)
        simp [this, Value.cells]) ?_
      intro m3 O3 w3 h3
      have hs3 : Sl 1 (ldOf x O3 w3) (.slice (some ⟨m3, 0, none⟩) 1 1) [#[.slice a2 n2 q2]] := .inr ⟨m3, 0, 1, rfl, Nat.le_refl _, fun i a hi => by
        rcases i with _ | i
        · simp at hi; subst hi
          refine ⟨rfl, fun k hk => ?_⟩
          obtain rfl : k = 0 := by omega
          exact h3.cell 0 _ rfl
        · simp at hi⟩
      obtain ⟨mc, hmc, hbuf', hmc2, hmcl⟩ : ∃ mc, w.heap.size ≤ mc ∧ Buf 1 x O1 w1 mc s (vs.map fun u => #[u]) ∧ mc ≠ m2 ∧ ∀ (i : Nat) (u : Value) (l : List Ent), vs[i]? = some u → ls[i]? = some l → ∃ mi, Buf 4 x O1 w1 mi u ((l.take 60).map Ent.cells) ∧ mi ≠ mc ∧ mi < w1.heap.size := by
        by_cases hvs : vs = []
        · subst hvs
          refine ⟨m2 + 1, Nat.le_trans r1.size (Nat.le_trans hm2 (Nat.le_succ _)), ?_, by omega, fun i u l hu => by simp at hu⟩
          rw [hnil rfl]; exact Buf.nil _ _ _ _ _
        · have := hmbl hvs
          exact ⟨mb, hmb, hbuf, by omega, hall⟩
      have hbuf3 := (hbuf'.rely r2).rely h3.rel
      refine t_append Try.underlying22 rfl rfl rfl (by decide) (by decide) (by decide) zero25 rfl (by decide) rfl rfl hbuf3 hs3 (by simp; omega) (slice_one _ _ _) ?_
      intro O4 w4 m' s' O5 w5 r4 hm4 hbuf5 hmm
      repeat (first
        | (refine t_skG rfl (by decide) rfl ?_)
        | (refine t_skU rfl (by decide) rfl ?_)
        | (first | refine t_rdG (by decide) rfl (by decide) rfl (fun K hK => ?_) | refine t_rd (by decide) (fun K hK => ?_)
           simp only [Xa, Xb, Xc, Xd, Xe, Xf, Xg, Xh, Xi, Xj, Xk, Xl, Xm, Xn, Xo, Xp, Xq, Xr, Xs, Xt, Xu, Xv, Xw, Xx, Xy, Xz, XA, XB, XD, XE, XF, XG, XH, XI, ev, XJ, upd, args1, args2, args3, args4, XK, XL, XM, extL, XN, XO, XP, XQ, XR, XT, XU, XV, XW, XX, XY, XZ, X0, X1, X2, X3, Addr.add, ↓reduceIte, Nat.reduceLT, Nat.reduceEqDiff, Nat.zero_add, Nat.reduceAdd, Option.map_some, X4, List.getElem_toArray, List.getElem_cons_zero, List.getElem_cons_succ]
           refine hK _ ?_
           clear hK K))
      refine t_done ?_
      refine t_inBlock ?_
      refine t_region ?_
      repeat (first
        | (refine t_skG rfl (by decide) rfl ?_)
        | (refine t_skU rfl (by decide) rfl ?_)
        | (first | refine t_rdG (by decide) rfl (by decide) rfl (fun K hK => ?_) | refine t_rd (by decide) (fun K hK => ?_)
           simp only [Xa, Xb, Xc, Xd, Xe, Xf, Xg, Xh, Xi, Xj, Xk, Xl, Xm, Xn, Xo, Xp, Xq, Xr, Xs, Xt, Xu, Xv, Xw, Xx, Xy, Xz, XA, XB, XD, XE, XF, XG, XH, XI, ev, XJ, upd, args1, args2, args3, args4, XK, XL, XM, extL, XN, XO, XP, XQ, XR, XT, XU, XV, XW, XX, XY, XZ, X0, X1, X2, X3, Addr.add, ↓reduceIte, Nat.reduceLT, Nat.reduceEqDiff, Nat.zero_add, Nat.reduceAdd, Option.map_some, X4, List.getElem_toArray, List.getElem_cons_zero, List.getElem_cons_succ, hf4, hw2]
           refine hK _ ?_
           clear hK K))
      refine t_done ?_
      refine t_inLoop ?_
      have ra := ((r1.trans r2).trans h3.rel).trans r4
      have rb := ra.mod hm4 hmc
      have r12 := (r2.trans h3.rel).trans r4
      have hsz4 : w1.heap.size ≤ w4.heap.size := r12.size
      have hm24 : m2 < w4.heap.size := Nat.lt_of_lt_of_le hm2l (Nat.le_trans h3.rel.size r4.size)
      refine ih (8 - (j + 1)) _ O5 w5 (by omega) ⟨rb, hf0, j + 1, m', s', vs ++ [.slice a2 n2 q2], rfl, rfl, rfl, by omega, by omega, ?_, ?_, by simp [hvl], ?_, by simp, ?_⟩
      · rcases hmm with rfl | ⟨hmm, _⟩
        · exact hmc
        · exact Nat.le_trans ra.size hmm
      · rw [List.map_append]; exact hbuf5
      · intro _
        rcases hbuf5.2 with ⟨he, _⟩ | ⟨_, _, _, _, _, h5, _⟩
        · simp at he
        · exact (Array.getElem?_eq_some_iff.1 h5).1
      · intro i u l hq5 hl2
        have hne : ∀ mi, mi ≠ mc → mi < w4.heap.size → mi ≠ m' := by
          intro mi h6 h7
          rcases hmm with rfl | ⟨hmm, _⟩
          · exact h6
          · omega
        by_cases hi : i < vs.length
        · rw [List.getElem?_append_left hi] at hq5
          obtain ⟨mi, hb, hn, hlt2⟩ := hmcl i u l hq5 hl2
          exact ⟨mi, (hb.rely r12).keep hm4 hn, hne mi hn (by omega), Nat.lt_of_lt_of_le hlt2 (Nat.le_trans hsz4 hm4.size)⟩
        · rw [List.getElem?_append_right (by omega)] at hq5
          have hi0 : i = j := by
            rcases Nat.eq_zero_or_pos (i - vs.length) with h | h
            · omega
            · rw [List.getElem?_eq_none (by simp; omega)] at hq5; cases hq5
          subst hi0
          rw [hvl, Nat.sub_self] at hq5; simp at hq5; subst hq5
          rw [List.getElem?_eq_getElem hlt] at hl2; cases hl2
          exact ⟨m2, ((hb2.rely h3.rel).rely r4).keep hm4 (Ne.symm hmc2), hne m2 (Ne.symm hmc2) hm24, Nat.lt_of_lt_of_le hm24 hm4.size⟩
    · have hd8 : decide ((j : Int) < 8) = false := by simp; omega
      repeat (first
        | (refine t_skG rfl (by decide) rfl ?_)
        | (refine t_skU rfl (by decide) rfl ?_)
        | (first | refine t_rdG (by decide) rfl (by decide) rfl (fun K hK => ?_) | refine t_rd (by decide) (fun K hK => ?_)
           simp only [Xa, Xb, Xc, Xd, Xe, Xf, Xg, Xh, Xi, Xj, Xk, Xl, Xm, Xn, Xo, Xp, Xq, Xr, Xs, Xt, Xu, Xv, Xw, Xx, Xy, Xz, XA, XB, XD, XE, XF, XG, XH, XI, ev, XJ, upd, args1, args2, args3, args4, XK, XL, XM, extL, XN, XO, XP, XQ, XR, XT, XU, XV, XW, XX, XY, XZ, X0, X1, X2, X3, Addr.add, ↓reduceIte, Nat.reduceLT, Nat.reduceEqDiff, Nat.zero_add, Nat.reduceAdd, Option.map_some, X4, List.getElem_toArray, List.getElem_cons_zero, List.getElem_cons_succ, hf0, hf4, hl, hd, hd8]
           refine hK _ ?_
           clear hK K))
      refine t_done ?_
      refine t_false rfl ?_
      refine t_exit rfl ?_
      refine t_seq ?_
      refine t_region ?_
      repeat (first
        | (refine t_skG rfl (by decide) rfl ?_)
        | (refine t_skU rfl (by decide) rfl ?_)
        | (first | refine t_rdG (by decide) rfl (by decide) rfl (fun K hK => ?_) | refine t_rd (by decide) (fun K hK => ?_)
           simp only [Xa, Xb, Xc, Xd, Xe, Xf, Xg, Xh, Xi, Xj, Xk, Xl, Xm, Xn, Xo, Xp, Xq, Xr, Xs, Xt, Xu, Xv, Xw, Xx, Xy, Xz, XA, XB, XD, XE, XF, XG, XH, XI, ev, XJ, upd, args1, args2, args3, args4, XK, XL, XM, extL, XN, XO, XP, XQ, XR, XT, XU, XV, XW, XX, XY, XZ, X0, X1, X2, X3, Addr.add, ↓reduceIte, Nat.reduceLT, Nat.reduceEqDiff, Nat.zero_add, Nat.reduceAdd, Option.map_some, X4, List.getElem_toArray, List.getElem_cons_zero, List.getElem_cons_succ, hf3]
           refine hK _ ?_
           clear hK K))
      refine t_done ?_
      refine t_ret ?_
      refine t_leave1 rfl Try.func9 Try.results9 ?_
      obtain rfl : j = 8 := by omega
      exact h O1 w1 s r1 fin
  · have hd : decide ((j : Int) < (ls.length : Int)) = false := by simp; omega
    repeat (first
      | (refine t_skG rfl (by decide) rfl ?_)
      | (refine t_skU rfl (by decide) rfl ?_)
      | (first | refine t_rdG (by decide) rfl (by decide) rfl (fun K hK => ?_) | refine t_rd (by decide) (fun K hK => ?_)
         simp only [Xa, Xb, Xc, Xd, Xe, Xf, Xg, Xh, Xi, Xj, Xk, Xl, Xm, Xn, Xo, Xp, Xq, Xr, Xs, Xt, Xu, Xv, Xw, Xx, Xy, Xz, XA, XB, XD, XE, XF, XG, XH, XI, ev, XJ, upd, args1, args2, args3, args4, XK, XL, XM, extL, XN, XO, XP, XQ, XR, XT, XU, XV, XW, XX, XY, XZ, X0, X1, X2, X3, Addr.add, ↓reduceIte, Nat.reduceLT, Nat.reduceEqDiff, Nat.zero_add, Nat.reduceAdd, Option.map_some, X4, List.getElem_toArray, List.getElem_cons_zero, List.getElem_cons_succ, hf0, hf4, hl, hd]
         refine hK _ ?_
         clear hK K))
    refine t_done ?_
    refine t_false rfl ?_
    refine t_exit rfl ?_
    refine t_seq ?_
    refine t_region ?_
    repeat (first
      | (refine t_skG rfl (by decide) rfl ?_)
      | (refine t_skU rfl (by decide) rfl ?_)
      | (first | refine t_rdG (by decide) rfl (by decide) rfl (fun K hK => ?_) | refine t_rd (by decide) (fun K hK => ?_)
         simp only [Xa, Xb, Xc, Xd, Xe, Xf, Xg, Xh, Xi, Xj, Xk, Xl, Xm, Xn, Xo, Xp, Xq, Xr, Xs, Xt, Xu, Xv, Xw, Xx, Xy, Xz, XA, XB, XD, XE, XF, XG, XH, XI, ev, XJ, upd, args1, args2, args3, args4, XK, XL, XM, extL, XN, XO, XP, XQ, XR, XT, XU, XV, XW, XX, XY, XZ, X0, X1, X2, X3, Addr.add, ↓reduceIte, Nat.reduceLT, Nat.reduceEqDiff, Nat.zero_add, Nat.reduceAdd, Option.map_some, X4, List.getElem_toArray, List.getElem_cons_zero, List.getElem_cons_succ, hf3]
         refine hK _ ?_
         clear hK K))
    refine t_done ?_
    refine t_ret ?_
    refine t_leave1 rfl Try.func9 Try.results9 ?_
    obtain rfl : j = ls.length := by omega
    rw [List.take_of_length_le (Nat.le_refl _), ← List.take_of_length_le hj8] at fin
    exact h O1 w1 s r1 fin
end Go.Proofs.Ytdajdembeacefaa.M

/-
  THE LAW MergeMerges, walked: it answers true.
-/
import Derived.Test.YtdajdembeacefaaBA
import Derived.Test.YtdajdembeacefaaAV
set_option linter.unusedSimpArgs false
set_option linter.unusedVariables false
namespace Go.Proofs.Ytdajdembeacefaa.M
open Go.Conc

theorem goodL_iff {ls : List (List Ent)} : goodL ls = true ↔ goodL' ls := by
  unfold goodL goodL'
  rw [List.all_eq_true]
  exact ⟨fun h l hl => ordL_srt (h l hl), fun h l hl => srt_ordL (h l hl)⟩
theorem firstL_eq {ls : List (List Ent)} (h : goodL ls = true) (n : Int) : firstL ls n = (refMergeL ls).take n.toNat := by
  unfold firstL
  rw [mrg_take, mrgI_ref (goodL_iff.1 h)]
  split
  · rfl
  · rename_i hn
    have : n.toNat = 0 := by simp at hn; omega
    rw [this]; rfl
theorem foldl_ins_len : ∀ (F : List Ent) (out : List Ent), (F.foldl insL out).length ≤ out.length + F.length
  | [], out => by simp
  | a :: F, out => by
    have := foldl_ins_len F (insL out a)
    have h2 := insL_len out a
    rw [List.foldl_cons, List.length_cons]; omega
theorem refMergeL_len (ls : List (List Ent)) : (refMergeL ls).length ≤ ls.flatten.length := by
  have := foldl_ins_len ls.flatten []
  simpa [refMergeL] using this
theorem total_flat (ls : List (List Ent)) : total ls = ls.flatten.length := by unfold total; rw [List.length_flatten]
theorem mergeL_eq {ls : List (List Ent)} (h : goodL ls = true) (hl : ls.flatten.length < 100000) : firstL ls maxInt = refMergeL ls := by
  rw [firstL_eq h, List.take_of_length_le]
  have := refMergeL_len ls
  unfold maxInt; omega
def cutL (ls : List (List Ent)) : List (List Ent) := (ls.take 8).map fun l => l.take 60
theorem cutL_len (ls : List (List Ent)) : (cutL ls).length ≤ 8 := by simp [cutL]; omega
theorem cutL_lens (ls : List (List Ent)) : ∀ l ∈ cutL ls, l.length ≤ 60 := by
  intro l hl
  simp only [cutL, List.mem_map] at hl
  obtain ⟨a, _, rfl⟩ := hl
  simp; omega
theorem cutL_self {ls : List (List Ent)} (h1 : ls.length ≤ 8) (h2 : ∀ l ∈ ls, l.length ≤ 60) : cutL ls = ls := by
  unfold cutL
  rw [List.take_of_length_le h1]
  conv => rhs; rw [← List.map_id ls]
  exact List.map_congr_left fun l hl => by rw [List.take_of_length_le (h2 l hl)]; rfl
theorem cutL_idem (ls : List (List Ent)) : cutL (cutL ls) = cutL ls := cutL_self (cutL_len ls) (cutL_lens ls)
theorem flat_bound : ∀ {ls : List (List Ent)} {k : Nat}, (∀ l ∈ ls, l.length ≤ k) → ls.flatten.length ≤ ls.length * k
  | [], k, _ => by simp
  | l :: ls, k, h => by
    have h1 := h l (List.mem_cons_self ..)
    have h2 := flat_bound fun l' hl => h l' (List.mem_cons_of_mem _ hl)
    rw [List.flatten_cons, List.length_append, List.length_cons, Nat.add_mul]; omega
theorem cutL_tot (ls : List (List Ent)) : (cutL ls).flatten.length ≤ 480 := by
  have h1 := flat_bound (cutL_lens ls)
  have h2 := cutL_len ls
  have : (cutL ls).length * 60 ≤ 8 * 60 := Nat.mul_le_mul_right _ h2
  omega
theorem sameL_self {α : Type} (l : List α) : sameL l l = true := by unfold sameL; simp
theorem nm8 : ((Try.f8).name == "runtime.NumGoroutine") = false := by kernel_rfl
theorem nm9 : ((Try.f9).name == "runtime.NumGoroutine") = false := by kernel_rfl
theorem nm12 : ((Try.f12).name == "runtime.NumGoroutine") = false := by kernel_rfl
theorem nm13 : ((Try.f13).name == "runtime.NumGoroutine") = false := by kernel_rfl
theorem nm14 : ((Try.f14).name == "runtime.NumGoroutine") = false := by kernel_rfl

/-- cut, as main calls it. -/
theorem cut_K {St : Gh → Goroutine → World → Prop} {ls : List (List Ent)} {v : Value} {O : Gh} {w : World} {c : Frame} {cs : List Frame} (hv : Sl2 (ldOf x0 O w) v ls)
    (h : ∀ O' w' s, Keep O w O' w' → Sl2 (ldOf x0 O' w') s (cutL ls) → Tree P x0 St O' (G (c.finish s) cs) w') : Tree P x0 St O (G (Frame.enter P 9 #[v] .normal) (c :: cs)) w :=
  cut_M ls v O w c cs hv fun O' w' s r hs => h O' w' s r.keep hs

set_option maxHeartbeats 16000000 in
theorem mergeMerges_M {Post : Value → World → Prop} (ls : List (List Ent)) (v : Value) (n : Int) (O : Gh) (w : World) (hv : Sl2 (ldOf x0 O w) v ls) (hd : O.deaf = 0)
    (hpost : ∀ O' w', Keep O w O' w' → Post (.bool true) w') : Tree P x0 (Will P Post) O (G (Frame.enter P 3 #[v, .int .i64 n] .normal) []) w := by
  rw [enter2 _ _ Try.func3 rfl Try.ntmps3 (by decide)]
  have hcl := cutL_len ls
  have hcls := cutL_lens ls
  have hct := cutL_tot ls
  have b1 : (cutL ls).length < 100000 := by omega
  have b2 : ∀ l ∈ cutL ls, l.length < 100000 := fun l hl => by have := hcls l hl; omega
  have b3 : total (cutL ls) < 100000 := by rw [total_flat]; omega
  refine t_seq ?_
  refine t_region ?_
  repeat (first
    | (refine t_skG rfl (by decide) rfl ?_)
    | (refine t_skU rfl (by decide) rfl ?_)
    | (first | refine t_rdG (by decide) rfl (by decide) rfl (fun K hK => ?_) | refine t_rd (by decide) (fun K hK => ?_)
       simp only [Xa, Xb, Xc, Xd, Xe, Xf, Xg, Xh, Xi, Xj, Xk, Xl, Xm, Xn, Xo, Xp, Xq, Xr, Xs, Xt, Xu, Xv, Xw, Xx, Xy, Xz, XA, XB, XD, XE, XF, XG, XH, XI, ev, XJ, upd, args1, args2, args3, args4, XK, XL, XM, extL, XN, XO, XP, XQ, XR, XT, XU, XV, XW, XX, XY, XZ, X0, X1, X2, X3, Addr.add, ↓reduceIte, Nat.reduceLT, Nat.reduceEqDiff, Nat.zero_add, Nat.reduceAdd, Option.map_some, X4, List.getElem_toArray, List.getElem_cons_zero, List.getElem_cons_succ]
       refine hK _ ?_
       clear hK K))
  refine t_done ?_
  refine t_seq ?_
  refine t_seq ?_
  refine t_region ?_
  refine t_callA #[] (by decide) Try.func8 nm8 rfl (by simp) ?_
  intro c1 hret
  refine awake_M O w c1 [] hd fun O1 w1 k1 => hret _ O1 w1 ?_
  clear hret
  repeat (first
    | (refine t_skG rfl (by decide) rfl ?_)
    | (refine t_skU rfl (by decide) rfl ?_)
    | (first | refine t_rdG (by decide) rfl (by decide) rfl (fun K hK => ?_) | refine t_rd (by decide) (fun K hK => ?_)
       simp only [Xa, Xb, Xc, Xd, Xe, Xf, Xg, Xh, Xi, Xj, Xk, Xl, Xm, Xn, Xo, Xp, Xq, Xr, Xs, Xt, Xu, Xv, Xw, Xx, Xy, Xz, XA, XB, XD, XE, XF, XG, XH, XI, ev, XJ, upd, args1, args2, args3, args4, XK, XL, XM, extL, XN, XO, XP, XQ, XR, XT, XU, XV, XW, XX, XY, XZ, X0, X1, X2, X3, Addr.add, ↓reduceIte, Nat.reduceLT, Nat.reduceEqDiff, Nat.zero_add, Nat.reduceAdd, Option.map_some, X4, List.getElem_toArray, List.getElem_cons_zero, List.getElem_cons_succ]
       refine hK _ ?_
       clear hK K))
  refine t_done ?_
  refine t_false rfl ?_
  refine t_skip ?_
  have hv1 : Sl2 (ldOf x0 O1 w1) v ls := hv.mono k1.know
  refine t_seq ?_
  refine t_region ?_
  iterate 1 (first
    | (refine t_skG rfl (by decide) rfl ?_)
    | (refine t_skU rfl (by decide) rfl ?_)
    | (first | refine t_rdG (by decide) rfl (by decide) rfl (fun K hK => ?_) | refine t_rd (by decide) (fun K hK => ?_)
       simp only [Xa, Xb, Xc, Xd, Xe, Xf, Xg, Xh, Xi, Xj, Xk, Xl, Xm, Xn, Xo, Xp, Xq, Xr, Xs, Xt, Xu, Xv, Xw, Xx, Xy, Xz, XA, XB, XD, XE, XF, XG, XH, XI, ev, XJ, upd, args1, args2, args3, args4, XK, XL, XM, extL, XN, XO, XP, XQ, XR, XT, XU, XV, XW, XX, XY, XZ, X0, X1, X2, X3, Addr.add, ↓reduceIte, Nat.reduceLT, Nat.reduceEqDiff, Nat.zero_add, Nat.reduceAdd, Option.map_some, X4, List.getElem_toArray, List.getElem_cons_zero, List.getElem_cons_succ]
       refine hK _ ?_
       clear hK K))
  refine t_callA #[v] (by decide) Try.func9 nm9 rfl (by simp only [List.map_toArray, List.map_cons, List.map_nil, Xa, Xb, Xc, Xd, Xe, Xf, Xg, Xh, Xi, Xj, Xk, Xl, Xm, Xn, Xo, Xp, Xq, Xr, Xs, Xt, Xu, Xv, Xw, Xx, Xy, Xz, XA, XB, XD, XE, XF, XG, XH, XI, ev, XJ, upd, args1, args2, args3, args4, XK, XL, XM, extL, XN, XO, XP, XQ, XR, XT, XU, XV, XW, XX, XY, XZ, X0, X1, X2, X3, Addr.add, ↓reduceIte, Nat.reduceLT, Nat.reduceEqDiff, Nat.zero_add, Nat.reduceAdd, Option.map_some, X4, List.getElem_toArray, List.getElem_cons_zero, List.getElem_cons_succ]) ?_
  intro c2 hret
  refine cut_K hv1 fun O2 w2 s k2 hs => hret _ O2 w2 ?_
  clear hret
  repeat (first
    | (refine t_skG rfl (by decide) rfl ?_)
    | (refine t_skU rfl (by decide) rfl ?_)
    | (first | refine t_rdG (by decide) rfl (by decide) rfl (fun K hK => ?_) | refine t_rd (by decide) (fun K hK => ?_)
       simp only [Xa, Xb, Xc, Xd, Xe, Xf, Xg, Xh, Xi, Xj, Xk, Xl, Xm, Xn, Xo, Xp, Xq, Xr, Xs, Xt, Xu, Xv, Xw, Xx, Xy, Xz, XA, XB, XD, XE, XF, XG, XH, XI, ev, XJ, upd, args1, args2, args3, args4, XK, XL, XM, extL, XN, XO, XP, XQ, XR, XT, XU, XV, XW, XX, XY, XZ, X0, X1, X2, X3, Addr.add, ↓reduceIte, Nat.reduceLT, Nat.reduceEqDiff, Nat.zero_add, Nat.reduceAdd, Option.map_some, X4, List.getElem_toArray, List.getElem_cons_zero, List.getElem_cons_succ]
       refine hK _ ?_
       clear hK K))
  refine t_done ?_
  -- Merge
  refine t_seq ?_
  refine t_region ?_
  iterate 1 (first
    | (refine t_skG rfl (by decide) rfl ?_)
    | (refine t_skU rfl (by decide) rfl ?_)
    | (first | refine t_rdG (by decide) rfl (by decide) rfl (fun K hK => ?_) | refine t_rd (by decide) (fun K hK => ?_)
       simp only [Xa, Xb, Xc, Xd, Xe, Xf, Xg, Xh, Xi, Xj, Xk, Xl, Xm, Xn, Xo, Xp, Xq, Xr, Xs, Xt, Xu, Xv, Xw, Xx, Xy, Xz, XA, XB, XD, XE, XF, XG, XH, XI, ev, XJ, upd, args1, args2, args3, args4, XK, XL, XM, extL, XN, XO, XP, XQ, XR, XT, XU, XV, XW, XX, XY, XZ, X0, X1, X2, X3, Addr.add, ↓reduceIte, Nat.reduceLT, Nat.reduceEqDiff, Nat.zero_add, Nat.reduceAdd, Option.map_some, X4, List.getElem_toArray, List.getElem_cons_zero, List.getElem_cons_succ]
       refine hK _ ?_
       clear hK K))
  refine t_callA #[s] (by decide) Try.func9 nm9 rfl (by simp only [List.map_toArray, List.map_cons, List.map_nil, Xa, Xb, Xc, Xd, Xe, Xf, Xg, Xh, Xi, Xj, Xk, Xl, Xm, Xn, Xo, Xp, Xq, Xr, Xs, Xt, Xu, Xv, Xw, Xx, Xy, Xz, XA, XB, XD, XE, XF, XG, XH, XI, ev, XJ, upd, args1, args2, args3, args4, XK, XL, XM, extL, XN, XO, XP, XQ, XR, XT, XU, XV, XW, XX, XY, XZ, X0, X1, X2, X3, Addr.add, ↓reduceIte, Nat.reduceLT, Nat.reduceEqDiff, Nat.zero_add, Nat.reduceAdd, Option.map_some, X4, List.getElem_toArray, List.getElem_cons_zero, List.getElem_cons_succ]) ?_
  intro c3 hret
  refine cut_K hs fun O3 w3 s3 k3 hs3 => hret _ O3 w3 ?_
  clear hret
  rw [cutL_idem] at hs3
  have k03 := (k1.trans k2).trans k3
  refine t_callA #[s3] (by decide) Try.func10 nm10 rfl (by simp only [List.map_toArray, List.map_cons, List.map_nil, Xa, Xb, Xc, Xd, Xe, Xf, Xg, Xh, Xi, Xj, Xk, Xl, Xm, Xn, Xo, Xp, Xq, Xr, Xs, Xt, Xu, Xv, Xw, Xx, Xy, Xz, XA, XB, XD, XE, XF, XG, XH, XI, ev, XJ, upd, args1, args2, args3, args4, XK, XL, XM, extL, XN, XO, XP, XQ, XR, XT, XU, XV, XW, XX, XY, XZ, X0, X1, X2, X3, Addr.add, ↓reduceIte, Nat.reduceLT, Nat.reduceEqDiff, Nat.zero_add, Nat.reduceAdd, Option.map_some, X4, List.getElem_toArray, List.getElem_cons_zero, List.getElem_cons_succ]) ?_
  intro c4 hret
  cases hg : goodL (cutL ls) with
  | false =>
    refine Merge_M (cutL ls) s3 O3 w3 c4 [] hs3 (k03.deaf.trans hd) b1 b2 b3 (fun h => by rw [hg] at h; cases h) (fun _ O4 w4 k4 => hret _ O4 w4 ?_)
    clear hret
    have hs4 := (hs.mono k3.know).mono k4.know
    repeat (first
      | (refine t_skG rfl (by decide) rfl ?_)
      | (refine t_skU rfl (by decide) rfl ?_)
      | (first | refine t_rdG (by decide) rfl (by decide) rfl (fun K hK => ?_) | refine t_rd (by decide) (fun K hK => ?_)
         simp only [Xa, Xb, Xc, Xd, Xe, Xf, Xg, Xh, Xi, Xj, Xk, Xl, Xm, Xn, Xo, Xp, Xq, Xr, Xs, Xt, Xu, Xv, Xw, Xx, Xy, Xz, XA, XB, XD, XE, XF, XG, XH, XI, ev, XJ, upd, args1, args2, args3, args4, XK, XL, XM, extL, XN, XO, XP, XQ, XR, XT, XU, XV, XW, XX, XY, XZ, X0, X1, X2, X3, Addr.add, ↓reduceIte, Nat.reduceLT, Nat.reduceEqDiff, Nat.zero_add, Nat.reduceAdd, Option.map_some, X4, List.getElem_toArray, List.getElem_cons_zero, List.getElem_cons_succ]
         refine hK _ ?_
         clear hK K))
    refine t_done ?_
    refine t_seq ?_
    refine t_region ?_
    iterate 1 (first
      | (refine t_skG rfl (by decide) rfl ?_)
      | (refine t_skU rfl (by decide) rfl ?_)
      | (first | refine t_rdG (by decide) rfl (by decide) rfl (fun K hK => ?_) | refine t_rd (by decide) (fun K hK => ?_)
         simp only [Xa, Xb, Xc, Xd, Xe, Xf, Xg, Xh, Xi, Xj, Xk, Xl, Xm, Xn, Xo, Xp, Xq, Xr, Xs, Xt, Xu, Xv, Xw, Xx, Xy, Xz, XA, XB, XD, XE, XF, XG, XH, XI, ev, XJ, upd, args1, args2, args3, args4, XK, XL, XM, extL, XN, XO, XP, XQ, XR, XT, XU, XV, XW, XX, XY, XZ, X0, X1, X2, X3, Addr.add, ↓reduceIte, Nat.reduceLT, Nat.reduceEqDiff, Nat.zero_add, Nat.reduceAdd, Option.map_some, X4, List.getElem_toArray, List.getElem_cons_zero, List.getElem_cons_succ]
         refine hK _ ?_
         clear hK K))
    refine t_callA #[s] (by decide) Try.func9 nm9 rfl (by simp only [List.map_toArray, List.map_cons, List.map_nil, Xa, Xb, Xc, Xd, Xe, Xf, Xg, Xh, Xi, Xj, Xk, Xl, Xm, Xn, Xo, Xp, Xq, Xr, Xs, Xt, Xu, Xv, Xw, Xx, Xy, Xz, XA, XB, XD, XE, XF, XG, XH, XI, ev, XJ, upd, args1, args2, args3, args4, XK, XL, XM, extL, XN, XO, XP, XQ, XR, XT, XU, XV, XW, XX, XY, XZ, X0, X1, X2, X3, Addr.add, ↓reduceIte, Nat.reduceLT, Nat.reduceEqDiff, Nat.zero_add, Nat.reduceAdd, Option.map_some, X4, List.getElem_toArray, List.getElem_cons_zero, List.getElem_cons_succ]) ?_
    intro c5 hret
    refine cut_K hs4 fun O5 w5 s5 k5 hs5 => hret _ O5 w5 ?_
    clear hret
    rw [cutL_idem] at hs5
    iterate 1 (first
      | (refine t_skG rfl (by decide) rfl ?_)
      | (refine t_skU rfl (by decide) rfl ?_)
      | (first | refine t_rdG (by decide) rfl (by decide) rfl (fun K hK => ?_) | refine t_rd (by decide) (fun K hK => ?_)
         simp only [Xa, Xb, Xc, Xd, Xe, Xf, Xg, Xh, Xi, Xj, Xk, Xl, Xm, Xn, Xo, Xp, Xq, Xr, Xs, Xt, Xu, Xv, Xw, Xx, Xy, Xz, XA, XB, XD, XE, XF, XG, XH, XI, ev, XJ, upd, args1, args2, args3, args4, XK, XL, XM, extL, XN, XO, XP, XQ, XR, XT, XU, XV, XW, XX, XY, XZ, X0, X1, X2, X3, Addr.add, ↓reduceIte, Nat.reduceLT, Nat.reduceEqDiff, Nat.zero_add, Nat.reduceAdd, Option.map_some, X4, List.getElem_toArray, List.getElem_cons_zero, List.getElem_cons_succ]
         refine hK _ ?_
         clear hK K))
    have k05 := (k03.trans k4).trans k5
    refine t_callA #[s5, .int .i64 n] (by decide) Try.func11 nm11 rfl (by simp only [List.map_toArray, List.map_cons, List.map_nil, Xa, Xb, Xc, Xd, Xe, Xf, Xg, Xh, Xi, Xj, Xk, Xl, Xm, Xn, Xo, Xp, Xq, Xr, Xs, Xt, Xu, Xv, Xw, Xx, Xy, Xz, XA, XB, XD, XE, XF, XG, XH, XI, ev, XJ, upd, args1, args2, args3, args4, XK, XL, XM, extL, XN, XO, XP, XQ, XR, XT, XU, XV, XW, XX, XY, XZ, X0, X1, X2, X3, Addr.add, ↓reduceIte, Nat.reduceLT, Nat.reduceEqDiff, Nat.zero_add, Nat.reduceAdd, Option.map_some, X4, List.getElem_toArray, List.getElem_cons_zero, List.getElem_cons_succ]) ?_
    intro c6 hret
    refine First_M (cutL ls) s5 n O5 w5 c6 [] hs5 (k05.deaf.trans hd) b1 b2 b3 (fun h => by rw [hg] at h; cases h) (fun _ O6 w6 k6 => hret _ O6 w6 ?_)
    clear hret
    have hs6 := (hs4.mono k5.know).mono k6.know
    repeat (first
      | (refine t_skG rfl (by decide) rfl ?_)
      | (refine t_skU rfl (by decide) rfl ?_)
      | (first | refine t_rdG (by decide) rfl (by decide) rfl (fun K hK => ?_) | refine t_rd (by decide) (fun K hK => ?_)
         simp only [Xa, Xb, Xc, Xd, Xe, Xf, Xg, Xh, Xi, Xj, Xk, Xl, Xm, Xn, Xo, Xp, Xq, Xr, Xs, Xt, Xu, Xv, Xw, Xx, Xy, Xz, XA, XB, XD, XE, XF, XG, XH, XI, ev, XJ, upd, args1, args2, args3, args4, XK, XL, XM, extL, XN, XO, XP, XQ, XR, XT, XU, XV, XW, XX, XY, XZ, X0, X1, X2, X3, Addr.add, ↓reduceIte, Nat.reduceLT, Nat.reduceEqDiff, Nat.zero_add, Nat.reduceAdd, Option.map_some, X4, List.getElem_toArray, List.getElem_cons_zero, List.getElem_cons_succ]
         refine hK _ ?_
         clear hK K))
    refine t_done ?_
    refine t_seq ?_
    refine t_seq ?_
    refine t_region ?_
    iterate 1 (first
      | (refine t_skG rfl (by decide) rfl ?_)
      | (refine t_skU rfl (by decide) rfl ?_)
      | (first | refine t_rdG (by decide) rfl (by decide) rfl (fun K hK => ?_) | refine t_rd (by decide) (fun K hK => ?_)
         simp only [Xa, Xb, Xc, Xd, Xe, Xf, Xg, Xh, Xi, Xj, Xk, Xl, Xm, Xn, Xo, Xp, Xq, Xr, Xs, Xt, Xu, Xv, Xw, Xx, Xy, Xz, XA, XB, XD, XE, XF, XG, XH, XI, ev, XJ, upd, args1, args2, args3, args4, XK, XL, XM, extL, XN, XO, XP, XQ, XR, XT, XU, XV, XW, XX, XY, XZ, X0, X1, X2, X3, Addr.add, ↓reduceIte, Nat.reduceLT, Nat.reduceEqDiff, Nat.zero_add, Nat.reduceAdd, Option.map_some, X4, List.getElem_toArray, List.getElem_cons_zero, List.getElem_cons_succ]
         refine hK _ ?_
         clear hK K))
    refine t_callA #[s] (by decide) Try.func12 nm12 rfl (by simp only [List.map_toArray, List.map_cons, List.map_nil, Xa, Xb, Xc, Xd, Xe, Xf, Xg, Xh, Xi, Xj, Xk, Xl, Xm, Xn, Xo, Xp, Xq, Xr, Xs, Xt, Xu, Xv, Xw, Xx, Xy, Xz, XA, XB, XD, XE, XF, XG, XH, XI, ev, XJ, upd, args1, args2, args3, args4, XK, XL, XM, extL, XN, XO, XP, XQ, XR, XT, XU, XV, XW, XX, XY, XZ, X0, X1, X2, X3, Addr.add, ↓reduceIte, Nat.reduceLT, Nat.reduceEqDiff, Nat.zero_add, Nat.reduceAdd, Option.map_some, X4, List.getElem_toArray, List.getElem_cons_zero, List.getElem_cons_succ]) ?_
    intro c7 hret
    refine good_M (cutL ls) s O6 w6 c7 [] hs6 (by omega) (fun l hl => by have := b2 l hl; omega) fun O7 w7 r7 => hret _ O7 w7 ?_
    clear hret
    rw [hg]
    have q60 : ((60 : Int) == 60) = true := by decide
    have q00 : (((0 : Nat) : Int) == 0) = true := by decide
    repeat (first
      | (refine t_skG rfl (by decide) rfl ?_)
      | (refine t_skU rfl (by decide) rfl ?_)
      | (first | refine t_rdG (by decide) rfl (by decide) rfl (fun K hK => ?_) | refine t_rd (by decide) (fun K hK => ?_)
         simp only [Xa, Xb, Xc, Xd, Xe, Xf, Xg, Xh, Xi, Xj, Xk, Xl, Xm, Xn, Xo, Xp, Xq, Xr, Xs, Xt, Xu, Xv, Xw, Xx, Xy, Xz, XA, XB, XD, XE, XF, XG, XH, XI, ev, XJ, upd, args1, args2, args3, args4, XK, XL, XM, extL, XN, XO, XP, XQ, XR, XT, XU, XV, XW, XX, XY, XZ, X0, X1, X2, X3, Addr.add, ↓reduceIte, Nat.reduceLT, Nat.reduceEqDiff, Nat.zero_add, Nat.reduceAdd, Option.map_some, X4, List.getElem_toArray, List.getElem_cons_zero, List.getElem_cons_succ]
         refine hK _ ?_
         clear hK K))
    refine t_done ?_
    refine t_true rfl ?_
    refine t_seq ?_
    refine t_region ?_
    repeat (first
      | (refine t_skG rfl (by decide) rfl ?_)
      | (refine t_skU rfl (by decide) rfl ?_)
      | (first | refine t_rdG (by decide) rfl (by decide) rfl (fun K hK => ?_) | refine t_rd (by decide) (fun K hK => ?_)
         simp only [Xa, Xb, Xc, Xd, Xe, Xf, Xg, Xh, Xi, Xj, Xk, Xl, Xm, Xn, Xo, Xp, Xq, Xr, Xs, Xt, Xu, Xv, Xw, Xx, Xy, Xz, XA, XB, XD, XE, XF, XG, XH, XI, ev, XJ, upd, args1, args2, args3, args4, XK, XL, XM, extL, XN, XO, XP, XQ, XR, XT, XU, XV, XW, XX, XY, XZ, X0, X1, X2, X3, Addr.add, ↓reduceIte, Nat.reduceLT, Nat.reduceEqDiff, Nat.zero_add, Nat.reduceAdd, Option.map_some, X4, List.getElem_toArray, List.getElem_cons_zero, List.getElem_cons_succ, q60, q00]
         refine hK _ ?_
         clear hK K))
    refine t_done ?_
    refine t_ret ?_
    exact t_final Try.func3 rfl (by decide) rfl (((k05.trans k6).deaf.trans hd |> fun h => r7.deaf.trans h)) fun O8 w8 r8 => hpost O8 w8 (((k05.trans k6).trans r7.keep).trans r8.keep)
  | true =>
    refine Merge_M (cutL ls) s3 O3 w3 c4 [] hs3 (k03.deaf.trans hd) b1 b2 b3 (fun _ O4 w4 l4 m4 k4 hb4 _ _ => hret _ O4 w4 ?_) (fun h => by rw [hg] at h; cases h)
    clear hret
    rw [mergeL_eq hg (by omega)] at hb4
    have hs4 := (hs.mono k3.know).mono k4.know
    have hl4 : SlE (ldOf x0 O4 w4) l4 (refMergeL (cutL ls)) := hb4.sl
    repeat (first
      | (refine t_skG rfl (by decide) rfl ?_)
      | (refine t_skU rfl (by decide) rfl ?_)
      | (first | refine t_rdG (by decide) rfl (by decide) rfl (fun K hK => ?_) | refine t_rd (by decide) (fun K hK => ?_)
         simp only [Xa, Xb, Xc, Xd, Xe, Xf, Xg, Xh, Xi, Xj, Xk, Xl, Xm, Xn, Xo, Xp, Xq, Xr, Xs, Xt, Xu, Xv, Xw, Xx, Xy, Xz, XA, XB, XD, XE, XF, XG, XH, XI, ev, XJ, upd, args1, args2, args3, args4, XK, XL, XM, extL, XN, XO, XP, XQ, XR, XT, XU, XV, XW, XX, XY, XZ, X0, X1, X2, X3, Addr.add, ↓reduceIte, Nat.reduceLT, Nat.reduceEqDiff, Nat.zero_add, Nat.reduceAdd, Option.map_some, X4, List.getElem_toArray, List.getElem_cons_zero, List.getElem_cons_succ]
         refine hK _ ?_
         clear hK K))
    refine t_done ?_
    refine t_seq ?_
    refine t_region ?_
    iterate 1 (first
      | (refine t_skG rfl (by decide) rfl ?_)
      | (refine t_skU rfl (by decide) rfl ?_)
      | (first | refine t_rdG (by decide) rfl (by decide) rfl (fun K hK => ?_) | refine t_rd (by decide) (fun K hK => ?_)
         simp only [Xa, Xb, Xc, Xd, Xe, Xf, Xg, Xh, Xi, Xj, Xk, Xl, Xm, Xn, Xo, Xp, Xq, Xr, Xs, Xt, Xu, Xv, Xw, Xx, Xy, Xz, XA, XB, XD, XE, XF, XG, XH, XI, ev, XJ, upd, args1, args2, args3, args4, XK, XL, XM, extL, XN, XO, XP, XQ, XR, XT, XU, XV, XW, XX, XY, XZ, X0, X1, X2, X3, Addr.add, ↓reduceIte, Nat.reduceLT, Nat.reduceEqDiff, Nat.zero_add, Nat.reduceAdd, Option.map_some, X4, List.getElem_toArray, List.getElem_cons_zero, List.getElem_cons_succ]
         refine hK _ ?_
         clear hK K))
    refine t_callA #[s] (by decide) Try.func9 nm9 rfl (by simp only [List.map_toArray, List.map_cons, List.map_nil, Xa, Xb, Xc, Xd, Xe, Xf, Xg, Xh, Xi, Xj, Xk, Xl, Xm, Xn, Xo, Xp, Xq, Xr, Xs, Xt, Xu, Xv, Xw, Xx, Xy, Xz, XA, XB, XD, XE, XF, XG, XH, XI, ev, XJ, upd, args1, args2, args3, args4, XK, XL, XM, extL, XN, XO, XP, XQ, XR, XT, XU, XV, XW, XX, XY, XZ, X0, X1, X2, X3, Addr.add, ↓reduceIte, Nat.reduceLT, Nat.reduceEqDiff, Nat.zero_add, Nat.reduceAdd, Option.map_some, X4, List.getElem_toArray, List.getElem_cons_zero, List.getElem_cons_succ]) ?_
    intro c5 hret
    refine cut_K hs4 fun O5 w5 s5 k5 hs5 => hret _ O5 w5 ?_
    clear hret
    rw [cutL_idem] at hs5
    iterate 1 (first
      | (refine t_skG rfl (by decide) rfl ?_)
      | (refine t_skU rfl (by decide) rfl ?_)
      | (first | refine t_rdG (by decide) rfl (by decide) rfl (fun K hK => ?_) | refine t_rd (by decide) (fun K hK => ?_)
         simp only [Xa, Xb, Xc, Xd, Xe, Xf, Xg, Xh, Xi, Xj, Xk, Xl, Xm, Xn, Xo, Xp, Xq, Xr, Xs, Xt, Xu, Xv, Xw, Xx, Xy, Xz, XA, XB, XD, XE, XF, XG, XH, XI, ev, XJ, upd, args1, args2, args3, args4, XK, XL, XM, extL, XN, XO, XP, XQ, XR, XT, XU, XV, XW, XX, XY, XZ, X0, X1, X2, X3, Addr.add, ↓reduceIte, Nat.reduceLT, Nat.reduceEqDiff, Nat.zero_add, Nat.reduceAdd, Option.map_some, X4, List.getElem_toArray, List.getElem_cons_zero, List.getElem_cons_succ]
         refine hK _ ?_
         clear hK K))
    have k05 := (k03.trans k4).trans k5
    refine t_callA #[s5, .int .i64 n] (by decide) Try.func11 nm11 rfl (by simp only [List.map_toArray, List.map_cons, List.map_nil, Xa, Xb, Xc, Xd, Xe, Xf, Xg, Xh, Xi, Xj, Xk, Xl, Xm, Xn, Xo, Xp, Xq, Xr, Xs, Xt, Xu, Xv, Xw, Xx, Xy, Xz, XA, XB, XD, XE, XF, XG, XH, XI, ev, XJ, upd, args1, args2, args3, args4, XK, XL, XM, extL, XN, XO, XP, XQ, XR, XT, XU, XV, XW, XX, XY, XZ, X0, X1, X2, X3, Addr.add, ↓reduceIte, Nat.reduceLT, Nat.reduceEqDiff, Nat.zero_add, Nat.reduceAdd, Option.map_some, X4, List.getElem_toArray, List.getElem_cons_zero, List.getElem_cons_succ]) ?_
    intro c6 hret
    refine First_M (cutL ls) s5 n O5 w5 c6 [] hs5 (k05.deaf.trans hd) b1 b2 b3 (fun _ O6 w6 l6 m6 k6 hb6 _ _ => hret _ O6 w6 ?_) (fun h => by rw [hg] at h; cases h)
    clear hret
    rw [firstL_eq hg] at hb6
    have hs6 := (hs4.mono k5.know).mono k6.know
    have hl46 : SlE (ldOf x0 O6 w6) l4 (refMergeL (cutL ls)) := Sl.mono (Sl.mono hl4 k5.know) k6.know
    have hl6 : SlE (ldOf x0 O6 w6) l6 ((refMergeL (cutL ls)).take n.toNat) := hb6.sl
    repeat (first
      | (refine t_skG rfl (by decide) rfl ?_)
      | (refine t_skU rfl (by decide) rfl ?_)
      | (first | refine t_rdG (by decide) rfl (by decide) rfl (fun K hK => ?_) | refine t_rd (by decide) (fun K hK => ?_)
         simp only [Xa, Xb, Xc, Xd, Xe, Xf, Xg, Xh, Xi, Xj, Xk, Xl, Xm, Xn, Xo, Xp, Xq, Xr, Xs, Xt, Xu, Xv, Xw, Xx, Xy, Xz, XA, XB, XD, XE, XF, XG, XH, XI, ev, XJ, upd, args1, args2, args3, args4, XK, XL, XM, extL, XN, XO, XP, XQ, XR, XT, XU, XV, XW, XX, XY, XZ, X0, X1, X2, X3, Addr.add, ↓reduceIte, Nat.reduceLT, Nat.reduceEqDiff, Nat.zero_add, Nat.reduceAdd, Option.map_some, X4, List.getElem_toArray, List.getElem_cons_zero, List.getElem_cons_succ]
         refine hK _ ?_
         clear hK K))
    refine t_done ?_
    refine t_seq ?_
    refine t_seq ?_
    refine t_region ?_
    iterate 1 (first
      | (refine t_skG rfl (by decide) rfl ?_)
      | (refine t_skU rfl (by decide) rfl ?_)
      | (first | refine t_rdG (by decide) rfl (by decide) rfl (fun K hK => ?_) | refine t_rd (by decide) (fun K hK => ?_)
         simp only [Xa, Xb, Xc, Xd, Xe, Xf, Xg, Xh, Xi, Xj, Xk, Xl, Xm, Xn, Xo, Xp, Xq, Xr, Xs, Xt, Xu, Xv, Xw, Xx, Xy, Xz, XA, XB, XD, XE, XF, XG, XH, XI, ev, XJ, upd, args1, args2, args3, args4, XK, XL, XM, extL, XN, XO, XP, XQ, XR, XT, XU, XV, XW, XX, XY, XZ, X0, X1, X2, X3, Addr.add, ↓reduceIte, Nat.reduceLT, Nat.reduceEqDiff, Nat.zero_add, Nat.reduceAdd, Option.map_some, X4, List.getElem_toArray, List.getElem_cons_zero, List.getElem_cons_succ]
         refine hK _ ?_
         clear hK K))
    refine t_callA #[s] (by decide) Try.func12 nm12 rfl (by simp only [List.map_toArray, List.map_cons, List.map_nil, Xa, Xb, Xc, Xd, Xe, Xf, Xg, Xh, Xi, Xj, Xk, Xl, Xm, Xn, Xo, Xp, Xq, Xr, Xs, Xt, Xu, Xv, Xw, Xx, Xy, Xz, XA, XB, XD, XE, XF, XG, XH, XI, ev, XJ, upd, args1, args2, args3, args4, XK, XL, XM, extL, XN, XO, XP, XQ, XR, XT, XU, XV, XW, XX, XY, XZ, X0, X1, X2, X3, Addr.add, ↓reduceIte, Nat.reduceLT, Nat.reduceEqDiff, Nat.zero_add, Nat.reduceAdd, Option.map_some, X4, List.getElem_toArray, List.getElem_cons_zero, List.getElem_cons_succ]) ?_
    intro c7 hret
    refine good_M (cutL ls) s O6 w6 c7 [] hs6 (by omega) (fun l hl => by have := b2 l hl; omega) fun O7 w7 r7 => hret _ O7 w7 ?_
    clear hret
    rw [hg]
    repeat (first
      | (refine t_skG rfl (by decide) rfl ?_)
      | (refine t_skU rfl (by decide) rfl ?_)
      | (first | refine t_rdG (by decide) rfl (by decide) rfl (fun K hK => ?_) | refine t_rd (by decide) (fun K hK => ?_)
         simp only [Xa, Xb, Xc, Xd, Xe, Xf, Xg, Xh, Xi, Xj, Xk, Xl, Xm, Xn, Xo, Xp, Xq, Xr, Xs, Xt, Xu, Xv, Xw, Xx, Xy, Xz, XA, XB, XD, XE, XF, XG, XH, XI, ev, XJ, upd, args1, args2, args3, args4, XK, XL, XM, extL, XN, XO, XP, XQ, XR, XT, XU, XV, XW, XX, XY, XZ, X0, X1, X2, X3, Addr.add, ↓reduceIte, Nat.reduceLT, Nat.reduceEqDiff, Nat.zero_add, Nat.reduceAdd, Option.map_some, X4, List.getElem_toArray, List.getElem_cons_zero, List.getElem_cons_succ]
         refine hK _ ?_
         clear hK K))
    refine t_done ?_
    refine t_false rfl ?_
    refine t_skip ?_
    have hs7 := hs6.rely r7
    have hl47 := hl46.rely r7
    have hl7 := hl6.rely r7
    have k07 := (k05.trans k6).trans r7.keep
    refine t_seq ?_
    refine t_region ?_
    iterate 1 (first
      | (refine t_skG rfl (by decide) rfl ?_)
      | (refine t_skU rfl (by decide) rfl ?_)
      | (first | refine t_rdG (by decide) rfl (by decide) rfl (fun K hK => ?_) | refine t_rd (by decide) (fun K hK => ?_)
         simp only [Xa, Xb, Xc, Xd, Xe, Xf, Xg, Xh, Xi, Xj, Xk, Xl, Xm, Xn, Xo, Xp, Xq, Xr, Xs, Xt, Xu, Xv, Xw, Xx, Xy, Xz, XA, XB, XD, XE, XF, XG, XH, XI, ev, XJ, upd, args1, args2, args3, args4, XK, XL, XM, extL, XN, XO, XP, XQ, XR, XT, XU, XV, XW, XX, XY, XZ, X0, X1, X2, X3, Addr.add, ↓reduceIte, Nat.reduceLT, Nat.reduceEqDiff, Nat.zero_add, Nat.reduceAdd, Option.map_some, X4, List.getElem_toArray, List.getElem_cons_zero, List.getElem_cons_succ]
         refine hK _ ?_
         clear hK K))
    refine t_callA #[s] (by decide) Try.func13 nm13 rfl (by simp only [List.map_toArray, List.map_cons, List.map_nil, Xa, Xb, Xc, Xd, Xe, Xf, Xg, Xh, Xi, Xj, Xk, Xl, Xm, Xn, Xo, Xp, Xq, Xr, Xs, Xt, Xu, Xv, Xw, Xx, Xy, Xz, XA, XB, XD, XE, XF, XG, XH, XI, ev, XJ, upd, args1, args2, args3, args4, XK, XL, XM, extL, XN, XO, XP, XQ, XR, XT, XU, XV, XW, XX, XY, XZ, X0, X1, X2, X3, Addr.add, ↓reduceIte, Nat.reduceLT, Nat.reduceEqDiff, Nat.zero_add, Nat.reduceAdd, Option.map_some, X4, List.getElem_toArray, List.getElem_cons_zero, List.getElem_cons_succ]) ?_
    intro c8 hret
    refine refMerge_M (cutL ls) s O7 w7 c8 [] hs7 b1 b2 (by omega) fun O8 w8 m8 l8 r8 hb8 => hret _ O8 w8 ?_
    clear hret
    have hl48 := hl47.rely r8
    have hl68 := hl7.rely r8
    have hl8 : SlE (ldOf x0 O8 w8) l8 (refMergeL (cutL ls)) := hb8.sl
    have hrl := refMergeL_len (cutL ls)
    repeat (first
      | (refine t_skG rfl (by decide) rfl ?_)
      | (refine t_skU rfl (by decide) rfl ?_)
      | (first | refine t_rdG (by decide) rfl (by decide) rfl (fun K hK => ?_) | refine t_rd (by decide) (fun K hK => ?_)
         simp only [Xa, Xb, Xc, Xd, Xe, Xf, Xg, Xh, Xi, Xj, Xk, Xl, Xm, Xn, Xo, Xp, Xq, Xr, Xs, Xt, Xu, Xv, Xw, Xx, Xy, Xz, XA, XB, XD, XE, XF, XG, XH, XI, ev, XJ, upd, args1, args2, args3, args4, XK, XL, XM, extL, XN, XO, XP, XQ, XR, XT, XU, XV, XW, XX, XY, XZ, X0, X1, X2, X3, Addr.add, ↓reduceIte, Nat.reduceLT, Nat.reduceEqDiff, Nat.zero_add, Nat.reduceAdd, Option.map_some, X4, List.getElem_toArray, List.getElem_cons_zero, List.getElem_cons_succ]
         refine hK _ ?_
         clear hK K))
    refine t_done ?_
    have q0 : ((0 : Int) == 0) = true := by decide
    refine t_seq ?_
    refine t_region ?_
    iterate 9 (first
      | (refine t_skG rfl (by decide) rfl ?_)
      | (refine t_skU rfl (by decide) rfl ?_)
      | (first | refine t_rdG (by decide) rfl (by decide) rfl (fun K hK => ?_) | refine t_rd (by decide) (fun K hK => ?_)
         simp only [Xa, Xb, Xc, Xd, Xe, Xf, Xg, Xh, Xi, Xj, Xk, Xl, Xm, Xn, Xo, Xp, Xq, Xr, Xs, Xt, Xu, Xv, Xw, Xx, Xy, Xz, XA, XB, XD, XE, XF, XG, XH, XI, ev, XJ, upd, args1, args2, args3, args4, XK, XL, XM, extL, XN, XO, XP, XQ, XR, XT, XU, XV, XW, XX, XY, XZ, X0, X1, X2, X3, Addr.add, ↓reduceIte, Nat.reduceLT, Nat.reduceEqDiff, Nat.zero_add, Nat.reduceAdd, Option.map_some, X4, List.getElem_toArray, List.getElem_cons_zero, List.getElem_cons_succ, q0]
         refine hK _ ?_
         clear hK K))
    refine t_callG #[l4, l8] (by decide) rfl (by decide) rfl Try.func14 nm14 rfl (by simp only [List.map_toArray, List.map_cons, List.map_nil, Xa, Xb, Xc, Xd, Xe, Xf, Xg, Xh, Xi, Xj, Xk, Xl, Xm, Xn, Xo, Xp, Xq, Xr, Xs, Xt, Xu, Xv, Xw, Xx, Xy, Xz, XA, XB, XD, XE, XF, XG, XH, XI, ev, XJ, upd, args1, args2, args3, args4, XK, XL, XM, extL, XN, XO, XP, XQ, XR, XT, XU, XV, XW, XX, XY, XZ, X0, X1, X2, X3, Addr.add, ↓reduceIte, Nat.reduceLT, Nat.reduceEqDiff, Nat.zero_add, Nat.reduceAdd, Option.map_some, X4, List.getElem_toArray, List.getElem_cons_zero, List.getElem_cons_succ]) ?_
    intro c9 hret
    refine Same_M (refMergeL (cutL ls)) (refMergeL (cutL ls)) l4 l8 O8 w8 c9 [] hl48 hl8 (by omega) fun O9 w9 r9 => hret _ O9 w9 ?_
    clear hret
    rw [sameL_self]
    have hl69 := hl68.rely r9
    have hl89 := hl8.rely r9
    have hlen8 := hl89.len
    iterate 7 (first
      | (refine t_skG rfl (by decide) rfl ?_)
      | (refine t_skU rfl (by decide) rfl ?_)
      | (first | refine t_rdG (by decide) rfl (by decide) rfl (fun K hK => ?_) | refine t_rd (by decide) (fun K hK => ?_)
         simp only [Xa, Xb, Xc, Xd, Xe, Xf, Xg, Xh, Xi, Xj, Xk, Xl, Xm, Xn, Xo, Xp, Xq, Xr, Xs, Xt, Xu, Xv, Xw, Xx, Xy, Xz, XA, XB, XD, XE, XF, XG, XH, XI, ev, XJ, upd, args1, args2, args3, args4, XK, XL, XM, extL, XN, XO, XP, XQ, XR, XT, XU, XV, XW, XX, XY, XZ, X0, X1, X2, X3, Addr.add, ↓reduceIte, Nat.reduceLT, Nat.reduceEqDiff, Nat.zero_add, Nat.reduceAdd, Option.map_some, X4, List.getElem_toArray, List.getElem_cons_zero, List.getElem_cons_succ, hlen8]
         refine hK _ ?_
         clear hK K))
    -- how many
    generalize hR : refMergeL (cutL ls) = R at *
    refine t_valG (v := .int .i64 (if (R.length : Int) < n then (R.length : Int) else n)) (by decide) rfl (by decide) rfl (x_min33 _ _ (by simp only [Xa, Xb, Xc, Xd, Xe, Xf, Xg, Xh, Xi, Xj, Xk, Xl, Xm, Xn, Xo, Xp, Xq, Xr, Xs, Xt, Xu, Xv, Xw, Xx, Xy, Xz, XA, XB, XD, XE, XF, XG, XH, XI, ev, XJ, upd, args1, args2, args3, args4, XK, XL, XM, extL, XN, XO, XP, XQ, XR, XT, XU, XV, XW, XX, XY, XZ, X0, X1, X2, X3, Addr.add, ↓reduceIte, Nat.reduceLT, Nat.reduceEqDiff, Nat.zero_add, Nat.reduceAdd, Option.map_some, X4, List.getElem_toArray, List.getElem_cons_zero, List.getElem_cons_succ]) (by simp only [Xa, Xb, Xc, Xd, Xe, Xf, Xg, Xh, Xi, Xj, Xk, Xl, Xm, Xn, Xo, Xp, Xq, Xr, Xs, Xt, Xu, Xv, Xw, Xx, Xy, Xz, XA, XB, XD, XE, XF, XG, XH, XI, ev, XJ, upd, args1, args2, args3, args4, XK, XL, XM, extL, XN, XO, XP, XQ, XR, XT, XU, XV, XW, XX, XY, XZ, X0, X1, X2, X3, Addr.add, ↓reduceIte, Nat.reduceLT, Nat.reduceEqDiff, Nat.zero_add, Nat.reduceAdd, Option.map_some, X4, List.getElem_toArray, List.getElem_cons_zero, List.getElem_cons_succ])) ?_
    obtain ⟨kk, hkk, hkl, htk⟩ : ∃ kk : Nat, (if (0 : Int) < (if (R.length : Int) < n then (R.length : Int) else n) then (if (R.length : Int) < n then (R.length : Int) else n) else 0) = (kk : Int) ∧ kk ≤ R.length ∧ R.take kk = R.take n.toNat := by
      by_cases h1 : (R.length : Int) < n
      · refine ⟨R.length, ?_, Nat.le_refl _, ?_⟩
        · rw [if_pos h1]; split <;> omega
        · rw [List.take_of_length_le (Nat.le_refl _), List.take_of_length_le (by omega)]
      · refine ⟨n.toNat, ?_, by omega, rfl⟩
        rw [if_neg h1]; split <;> omega
    refine t_valG (v := .int .i64 (kk : Int)) (by decide) rfl (by decide) rfl (by rw [← hkk]; exact x_max33 _ _ rfl (by simp only [Xa, Xb, Xc, Xd, Xe, Xf, Xg, Xh, Xi, Xj, Xk, Xl, Xm, Xn, Xo, Xp, Xq, Xr, Xs, Xt, Xu, Xv, Xw, Xx, Xy, Xz, XA, XB, XD, XE, XF, XG, XH, XI, ev, XJ, upd, args1, args2, args3, args4, XK, XL, XM, extL, XN, XO, XP, XQ, XR, XT, XU, XV, XW, XX, XY, XZ, X0, X1, X2, X3, Addr.add, ↓reduceIte, Nat.reduceLT, Nat.reduceEqDiff, Nat.zero_add, Nat.reduceAdd, Option.map_some, X4, List.getElem_toArray, List.getElem_cons_zero, List.getElem_cons_succ])) ?_
    obtain ⟨sa, sm, sc, hse, hsle, hsl⟩ := Sl.take hl89 kk (by simpa using hkl)
    refine t_valG (v := .slice sa kk sc) (by decide) rfl (by decide) rfl (x_sliceHi (sz := 4) (a := sa) (n := sm) (cap := sc) (h := kk) (k := .i64) Try.underlying25 info37 _ _ (by show l8 = _; exact hse) (by simp only [Xa, Xb, Xc, Xd, Xe, Xf, Xg, Xh, Xi, Xj, Xk, Xl, Xm, Xn, Xo, Xp, Xq, Xr, Xs, Xt, Xu, Xv, Xw, Xx, Xy, Xz, XA, XB, XD, XE, XF, XG, XH, XI, ev, XJ, upd, args1, args2, args3, args4, XK, XL, XM, extL, XN, XO, XP, XQ, XR, XT, XU, XV, XW, XX, XY, XZ, X0, X1, X2, X3, Addr.add, ↓reduceIte, Nat.reduceLT, Nat.reduceEqDiff, Nat.zero_add, Nat.reduceAdd, Option.map_some, X4, List.getElem_toArray, List.getElem_cons_zero, List.getElem_cons_succ]) hsle) ?_
    have hslE : SlE (ldOf x0 O9 w9) (.slice sa kk sc) (R.take n.toNat) := by
      unfold SlE; rw [← htk, List.map_take]; exact hsl
    refine t_callG #[l6, .slice sa kk sc] (by decide) rfl (by decide) rfl Try.func14 nm14 rfl (by simp only [List.map_toArray, List.map_cons, List.map_nil, Xa, Xb, Xc, Xd, Xe, Xf, Xg, Xh, Xi, Xj, Xk, Xl, Xm, Xn, Xo, Xp, Xq, Xr, Xs, Xt, Xu, Xv, Xw, Xx, Xy, Xz, XA, XB, XD, XE, XF, XG, XH, XI, ev, XJ, upd, args1, args2, args3, args4, XK, XL, XM, extL, XN, XO, XP, XQ, XR, XT, XU, XV, XW, XX, XY, XZ, X0, X1, X2, X3, Addr.add, ↓reduceIte, Nat.reduceLT, Nat.reduceEqDiff, Nat.zero_add, Nat.reduceAdd, Option.map_some, X4, List.getElem_toArray, List.getElem_cons_zero, List.getElem_cons_succ]) ?_
    intro c10 hret
    refine Same_M (R.take n.toNat) (R.take n.toNat) l6 _ O9 w9 c10 [] hl69 hslE (by rw [List.length_take]; omega) fun Oa wa ra => hret _ Oa wa ?_
    clear hret
    rw [sameL_self]
    repeat (first
      | (refine t_skG rfl (by decide) rfl ?_)
      | (refine t_skU rfl (by decide) rfl ?_)
      | (first | refine t_rdG (by decide) rfl (by decide) rfl (fun K hK => ?_) | refine t_rd (by decide) (fun K hK => ?_)
         simp only [Xa, Xb, Xc, Xd, Xe, Xf, Xg, Xh, Xi, Xj, Xk, Xl, Xm, Xn, Xo, Xp, Xq, Xr, Xs, Xt, Xu, Xv, Xw, Xx, Xy, Xz, XA, XB, XD, XE, XF, XG, XH, XI, ev, XJ, upd, args1, args2, args3, args4, XK, XL, XM, extL, XN, XO, XP, XQ, XR, XT, XU, XV, XW, XX, XY, XZ, X0, X1, X2, X3, Addr.add, ↓reduceIte, Nat.reduceLT, Nat.reduceEqDiff, Nat.zero_add, Nat.reduceAdd, Option.map_some, X4, List.getElem_toArray, List.getElem_cons_zero, List.getElem_cons_succ]
         refine hK _ ?_
         clear hK K))
    refine t_done ?_
    refine t_ret ?_
    have ka := ((k07.trans r8.keep).trans r9.keep).trans ra.keep
    exact t_final Try.func3 rfl (by decide) rfl (ka.deaf.trans hd) fun Ob wb rb => hpost Ob wb (ka.trans rb.keep)
end Go.Proofs.Ytdajdembeacefaa.M

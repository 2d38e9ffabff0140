/-
  Contract of the document's Merge.
-/
import Derived.Test.YtdajdembeacefaaAT
set_option linter.unusedSimpArgs false
set_option linter.unusedVariables false
namespace Go.Proofs.Ytdajdembeacefaa.M
open Go.Conc

def insL (out : List Ent) (e : Ent) : List Ent := if hasL out e then out else out.takeWhile (fun a => bef a e) ++ [e] ++ out.dropWhile (fun a => bef a e)
def refMergeL (ls : List (List Ent)) : List Ent := ls.flatten.foldl insL []

/-- Two buffers: the second is written to. -/
def Two (sz : Nat) (x : Th) (lo lo2 : Nat) (O : Gh) (w : World) (s : Value) (out : List (Array Value)) (s2 : Value) (l2 : List (Array Value)) : Prop :=
  lo ≤ w.heap.size ∧ lo2 ≤ w.heap.size ∧ ∃ mb mc, lo ≤ mb ∧ lo2 ≤ mc ∧ mb ≠ mc ∧ Buf sz x O w mb s out ∧ Buf sz x O w mc s2 l2 ∧ (out = [] → s = .slice none 0 0) ∧ (l2 = [] → s2 = .slice none 0 0)
theorem Buf.lt_of {sz : Nat} {x : Th} {O : Gh} {w : World} {m : Nat} {s : Value} {cs : List (Array Value)} (h : Buf sz x O w m s cs) (hn : cs ≠ []) : m < w.heap.size := by
  rcases h.2 with ⟨h1, _⟩ | ⟨_, _, _, _, _, h3, _⟩
  · exact absurd h1 hn
  · exact (Array.getElem?_eq_some_iff.1 h3).1
section
variable {sz : Nat} {x : Th} {lo lo2 : Nat} {O O1 : Gh} {w w1 : World} {s s2 : Value} {out l2 : List (Array Value)}
theorem Two.rely (h : Two sz x lo lo2 O w s out s2 l2) (r : Rel x O w O1 w1) : Two sz x lo lo2 O1 w1 s out s2 l2 := by
  obtain ⟨h0, h0', mb, mc, h1, h2, h3, h4, h5, h6⟩ := h
  exact ⟨Nat.le_trans h0 r.size, Nat.le_trans h0' r.size, mb, mc, h1, h2, h3, h4.rely r, h5.rely r, h6⟩
theorem Two.fst (h : Two sz x lo lo2 O w s out s2 l2) : Sl sz (ldOf x O w) s out := by
  obtain ⟨h0, h0', mb, mc, h1, h2, h3, h4, h5, h6⟩ := h
  exact h4.sl
theorem Two.snd (h : Two sz x lo lo2 O w s out s2 l2) : Sl sz (ldOf x O w) s2 l2 := by
  obtain ⟨h0, h0', mb, mc, h1, h2, h3, h4, h5, h6⟩ := h
  exact h5.sl
theorem Two.nil2 (h : Two sz x lo lo2 O w s out s2 l2) {lo3 : Nat} (hl : lo3 ≤ w.heap.size) : Two sz x lo lo3 O w s out (.slice none 0 0) [] := by
  obtain ⟨h0, h0', mb, mc, h1, h2, h3, h4, h5, h6⟩ := h
  exact ⟨h0, hl, mb, lo3 + mb + 1, h1, by omega, by omega, h4, Buf.nil _ _ _ _ _, h6.1, fun _ => rfl⟩
theorem Two.app (h : Two sz x lo lo2 O w s out s2 l2) : ∃ mc, Buf sz x O w mc s2 l2 ∧ lo2 ≤ mc ∧
    ∀ (O1 O2 : Gh) (w1 w2 : World) (m' : Nat) (s' : Value) (l' : List (Array Value)), Rel x O w O1 w1 → Mod O1 w1 O2 w2 mc → Buf sz x O2 w2 m' s' l' → (m' = mc ∨ (w1.heap.size ≤ m' ∧ m' < w2.heap.size)) → l' ≠ [] → Two sz x lo lo2 O2 w2 s out s' l' := by
  obtain ⟨h0, h0', mb, mc, h1, h2, h3, h4, h5, h6, h7⟩ := h
  refine ⟨mc, h5, h2, fun O1 O2 w1 w2 m' s' l' r k hb' hm hl => ?_⟩
  have hlo' : lo2 ≤ m' := by
    rcases hm with rfl | ⟨hm, _⟩
    · exact h2
    · exact Nat.le_trans h0' (Nat.le_trans r.size hm)
  refine ⟨Nat.le_trans h0 (Nat.le_trans r.size k.size), Nat.le_trans h0' (Nat.le_trans r.size k.size), ?_⟩
  by_cases ho : out = []
  · refine ⟨lo + m' + 1, m', by omega, hlo', by omega, ?_, hb', h6, fun e => absurd e hl⟩
    rw [h6 ho, ho]; exact Buf.nil _ _ _ _ _
  · have hmb := h4.lt_of ho
    refine ⟨mb, m', h1, hlo', ?_, (h4.rely r).keep k h3, hb', h6, fun e => absurd e hl⟩
    rcases hm with rfl | ⟨hm, _⟩
    · exact h3
    · have := r.size; omega
/-- The second becomes the first. -/
theorem Two.swap (h : Two sz x lo lo2 O w s out s2 l2) (hl : l2 ≠ []) (hlo : lo ≤ lo2) : Two sz x lo lo O w s2 l2 (.slice none 0 0) [] := by
  obtain ⟨h0, h0', mb, mc, h1, h2, h3, h4, h5, h6, h7⟩ := h
  exact ⟨h0, h0, mc, mb, by omega, h1, Ne.symm h3, h5, Buf.nil _ _ _ _ _, fun e => absurd e hl, fun _ => rfl⟩
theorem Two.start {x : Th} (hlo : lo ≤ w.heap.size) : Two sz x lo lo O w (.slice none 0 0) [] (.slice none 0 0) [] := ⟨hlo, hlo, lo, lo + 1, Nat.le_refl _, by omega, by omega, Buf.nil _ _ _ _ _, Buf.nil _ _ _ _ _, fun _ => rfl, fun _ => rfl⟩
end
theorem insL_len (out : List Ent) (e : Ent) : (insL out e).length ≤ out.length + 1 := by
  unfold insL; split
  · omega
  · have := congrArg List.length (List.takeWhile_append_dropWhile (p := fun a => bef a e) (l := out))
    rw [List.length_append] at this
    simp only [List.length_append, List.length_cons, List.length_nil]; omega
theorem info37 : (P.info? 37).map (·.size) = some 4 := rfl
theorem nm31 : ((Try.f31).name == "runtime.NumGoroutine") = false := by kernel_rfl
theorem nm15 : ((Try.f15).name == "runtime.NumGoroutine") = false := by kernel_rfl
theorem take_while_at {out : List Ent} {e : Ent} {n : Nat} (hn : n ≤ out.length) (h : ∀ (i : Nat) (a : Ent), i < n → out[i]? = some a → bef a e = true) (hs : ∀ a, out[n]? = some a → bef a e = false) :
    out.takeWhile (fun a => bef a e) = out.take n ∧ out.dropWhile (fun a => bef a e) = out.drop n := by
  induction out generalizing n with
  | nil => simp at hn; subst hn; simp
  | cons b l ih =>
    cases n with
    | zero =>
      have := hs b rfl
      simp [List.takeWhile_cons, List.dropWhile_cons, this]
    | succ n =>
      have hb := h 0 b (by omega) rfl
      obtain ⟨h1, h2⟩ := ih (n := n) (by simpa using hn) (fun i a hi ha => h (i + 1) a (by omega) (by simpa using ha)) (fun a ha => hs a (by simpa using ha))
      simp [List.takeWhile_cons, List.dropWhile_cons, hb, h1, h2]

noncomputable def loopA13 : Code := bodyB (tlC (hdC (tlC (tlC ((Try.f13).body.getD .skip)))))
noncomputable def rest17m : Code := tlC (tlC (tlC ((Try.f13).body.getD .skip)))
noncomputable def loopB13 : Code := bodyB (tlC (bodyB' (hdC (tlC loopA13))))
noncomputable def loopC13 : Code := bodyB (hdC (tlC (tlC (tlC (tlC (bodyB' (hdC (tlC loopB13))))))))
noncomputable def rest15m : Code := tlC (tlC (tlC (tlC (tlC (bodyB' (hdC (tlC loopB13)))))))

set_option maxHeartbeats 16000000 in
theorem refMerge_M {x : Th} {St : Gh → Goroutine → World → Prop} (ls : List (List Ent)) (v : Value) (O : Gh) (w : World) (c : Frame) (cs : List Frame) (hv : Sl2 (ldOf x O w) v ls) (hls : ls.length < 100000) (hlen : ∀ l ∈ ls, l.length < 100000) (htot : ls.flatten.length < 100000)
    (h : ∀ O' w' m s, Rel x O w O' w' → Buf 4 x O' w' m s ((refMergeL ls).map Ent.cells) → Tree P x St O' (G (c.finish s) cs) w') :
    Tree P x St O (G (Frame.enter P 13 #[v] .normal) (c :: cs)) w := by
  rw [enter1 _ Try.func13 rfl Try.ntmps13 (by decide)]
  refine t_seq ?_
  refine t_region ?_
  repeat (first
    | (refine t_skG rfl (by decide) rfl ?_)
    | (refine t_skU rfl (by decide) rfl ?_)
    | (first | refine t_rdG (by decide) rfl (by decide) rfl (fun K hK => ?_) | refine t_rd (by decide) (fun K hK => ?_)
       simp only [Xa, Xb, Xc, Xd, Xe, Xf, Xg, Xh, Xi, Xj, Xk, Xl, Xm, Xn, Xo, Xp, Xq, Xr, Xs, Xt, Xu, Xv, Xw, Xx, Xy, Xz, XA, XB, XD, XE, XF, XG, XH, XI, ev, XJ, upd, args1, args2, args3, args4, XK, XL, XM, extL, XN, XO, XP, XQ, XR, XT, XU, XV, XW, XX, XY, XZ, X0, X1, X2, X3, Addr.add, ↓reduceIte, Nat.reduceLT, Nat.reduceEqDiff, Nat.zero_add, Nat.reduceAdd, Option.map_some, X4, List.getElem_toArray, List.getElem_cons_zero, List.getElem_cons_succ]
       refine hK _ ?_
       clear hK K))
  refine t_done ?_
  refine t_seq ?_
  refine t_region ?_
  repeat (first
    | (refine t_skG rfl (by decide) rfl ?_)
    | (refine t_skU rfl (by decide) rfl ?_)
    | (first | refine t_rdG (by decide) rfl (by decide) rfl (fun K hK => ?_) | refine t_rd (by decide) (fun K hK => ?_)
       simp only [Xa, Xb, Xc, Xd, Xe, Xf, Xg, Xh, Xi, Xj, Xk, Xl, Xm, Xn, Xo, Xp, Xq, Xr, Xs, Xt, Xu, Xv, Xw, Xx, Xy, Xz, XA, XB, XD, XE, XF, XG, XH, XI, ev, XJ, upd, args1, args2, args3, args4, XK, XL, XM, extL, XN, XO, XP, XQ, XR, XT, XU, XV, XW, XX, XY, XZ, X0, X1, X2, X3, Addr.add, ↓reduceIte, Nat.reduceLT, Nat.reduceEqDiff, Nat.zero_add, Nat.reduceAdd, Option.map_some, X4, List.getElem_toArray, List.getElem_cons_zero, List.getElem_cons_succ]
       refine hK _ ?_
       clear hK K))
  refine t_done ?_
  refine t_seq ?_
  refine t_seq ?_
  refine t_region ?_
  repeat (first
    | (refine t_skG rfl (by decide) rfl ?_)
    | (refine t_skU rfl (by decide) rfl ?_)
    | (first | refine t_rdG (by decide) rfl (by decide) rfl (fun K hK => ?_) | refine t_rd (by decide) (fun K hK => ?_)
       simp only [Xa, Xb, Xc, Xd, Xe, Xf, Xg, Xh, Xi, Xj, Xk, Xl, Xm, Xn, Xo, Xp, Xq, Xr, Xs, Xt, Xu, Xv, Xw, Xx, Xy, Xz, XA, XB, XD, XE, XF, XG, XH, XI, ev, XJ, upd, args1, args2, args3, args4, XK, XL, XM, extL, XN, XO, XP, XQ, XR, XT, XU, XV, XW, XX, XY, XZ, X0, X1, X2, X3, Addr.add, ↓reduceIte, Nat.reduceLT, Nat.reduceEqDiff, Nat.zero_add, Nat.reduceAdd, Option.map_some, X4, List.getElem_toArray, List.getElem_cons_zero, List.getElem_cons_succ]
       refine hK _ ?_
       clear hK K))
  refine t_done ?_
  refine t_block ?_
  refine t_loop ?_
  refine t_while (fun m f O' w' => Rel x O w O' w' ∧ f 0 = v ∧ ∃ (i : Nat) (s : Value) (out : List Ent), f 3 = s ∧ f 4 = .int .i64 (i : Int) ∧ m = ls.length - i ∧ i ≤ ls.length ∧ out.length + (ls.drop i).flatten.length ≤ ls.flatten.length ∧ (ls.drop i).flatten.foldl insL out = refMergeL ls ∧ Two 4 x w.heap.size w.heap.size O' w' s (out.map Ent.cells) (.slice none 0 0) [])
    ls.length ⟨Rel.refl x O w, rfl, 0, .slice none 0 0, [], rfl, rfl, rfl, Nat.zero_le _, by simp, rfl, Two.start (Nat.le_refl _)⟩ ?_
  rintro m f O1 w1 ⟨r1, hf0, i, s, out, hf3, hf4, hm, hi, hol, hfold, htwo⟩ ih
  have hv1 := hv.rely r1
  have hl := hv1.len
  have hw2 : IntKind.i64.wrap ((i : Int) + 1) = ((i + 1 : Nat) : Int) := by rw [wrap64] <;> omega
  refine t_seq ?_
  refine t_seq ?_
  refine t_region ?_
  by_cases hlt : i < ls.length
  · have hd : decide ((i : Int) < (ls.length : Int)) = true := decide_eq_true (by omega)
    have hdrop := List.drop_eq_getElem_cons hlt
    generalize hkE : ls[i] = l at hdrop
    have hli : ls[i]? = some l := by rw [List.getElem?_eq_getElem hlt, hkE]
    have hllen := hlen l (List.mem_of_getElem? hli)
    repeat (first
      | (refine t_skG rfl (by decide) rfl ?_)
      | (refine t_skU rfl (by decide) rfl ?_)
      | (first | refine t_rdG (by decide) rfl (by decide) rfl (fun K hK => ?_) | refine t_rd (by decide) (fun K hK => ?_)
         simp only [Xa, Xb, Xc, Xd, Xe, Xf, Xg, Xh, Xi, Xj, Xk, Xl, Xm, Xn, Xo, Xp, Xq, Xr, Xs, Xt, Xu, Xv, Xw, Xx, Xy, Xz, XA, XB, XD, XE, XF, XG, XH, XI, ev, XJ, upd, args1, args2, args3, args4, XK, XL, XM, extL, XN, XO, XP, XQ, XR, XT, XU, XV, XW, XX, XY, XZ, X0, X1, X2, X3, Addr.add, ↓reduceIte, Nat.reduceLT, Nat.reduceEqDiff, Nat.zero_add, Nat.reduceAdd, Option.map_some, X4, List.getElem_toArray, List.getElem_cons_zero, List.getElem_cons_succ, hf0, hf4, hl, hd]
         refine hK _ ?_
         clear hK K))
    refine t_done ?_
    refine t_true rfl ?_
    refine t_skip ?_
    refine t_seq ?_
    refine t_block ?_
    refine t_seq ?_
    refine t_region ?_
    repeat (first
      | (refine t_skG rfl (by decide) rfl ?_)
      | (refine t_skU rfl (by decide) rfl ?_)
      | (first | refine t_rdG (by decide) rfl (by decide) rfl (fun K hK => ?_) | refine t_rd (by decide) (fun K hK => ?_)
         simp only [Xa, Xb, Xc, Xd, Xe, Xf, Xg, Xh, Xi, Xj, Xk, Xl, Xm, Xn, Xo, Xp, Xq, Xr, Xs, Xt, Xu, Xv, Xw, Xx, Xy, Xz, XA, XB, XD, XE, XF, XG, XH, XI, ev, XJ, upd, args1, args2, args3, args4, XK, XL, XM, extL, XN, XO, XP, XQ, XR, XT, XU, XV, XW, XX, XY, XZ, X0, X1, X2, X3, Addr.add, ↓reduceIte, Nat.reduceLT, Nat.reduceEqDiff, Nat.zero_add, Nat.reduceAdd, Option.map_some, X4, List.getElem_toArray, List.getElem_cons_zero, List.getElem_cons_succ]
         refine hK _ ?_
         clear hK K))
    refine t_done ?_
    refine t_block ?_
    refine t_loop ?_
    rw [hdrop, List.flatten_cons] at hfold hol
    refine t_while (fun m f O' w' => Rel x O w O' w' ∧ f 0 = v ∧ f 4 = .int .i64 (i : Int) ∧ ∃ (k : Nat) (s : Value) (out : List Ent), f 3 = s ∧ f 5 = .int .i64 (k : Int) ∧ m = l.length - k ∧ k ≤ l.length ∧ out.length + (l.drop k ++ (ls.drop (i + 1)).flatten).length ≤ ls.flatten.length ∧ (l.drop k ++ (ls.drop (i + 1)).flatten).foldl insL out = refMergeL ls ∧ Two 4 x w.heap.size w.heap.size O' w' s (out.map Ent.cells) (.slice none 0 0) [])
      l.length ⟨r1, hf0, hf4, 0, s, out, hf3, rfl, rfl, Nat.zero_le _, by simpa using hol, by simpa using hfold, htwo⟩ ?_
    clear hfold hol htwo hf3 hv1 r1 hf0 hf4 s out
    rintro m2 f O2 w2 ⟨r2, hf0, hf4, k, s, out, hf3, hf5, hm2, hk, hol, hfold, htwo⟩ ih2
    have hv2 := hv.rely r2
    obtain ⟨A, u, iA, lA, hu⟩ := hv2.at hli
    have hul := hu.len
    have hw3 : IntKind.i64.wrap ((k : Int) + 1) = ((k + 1 : Nat) : Int) := by rw [wrap64] <;> omega
    refine t_seq ?_
    refine t_seq ?_
    refine t_region ?_
    by_cases hklt : k < l.length
    · have hd2 : decide ((k : Int) < (l.length : Int)) = true := decide_eq_true (by omega)
      have hdrop2 := List.drop_eq_getElem_cons hklt
      generalize hkE2 : l[k] = e at hdrop2
      have hek : l[k]? = some e := by rw [List.getElem?_eq_getElem hklt, hkE2]
      obtain ⟨B, hB⟩ := hu.at hek
      have iB := hB.idx
      have wB := hB.whole
      rw [hdrop2, List.cons_append, List.foldl_cons] at hfold
      rw [hdrop2, List.cons_append, List.length_cons] at hol
      repeat (first
        | (refine t_skG rfl (by decide) rfl ?_)
        | (refine t_skU rfl (by decide) rfl ?_)
        | (first | refine t_rdG (by decide) rfl (by decide) rfl (fun K hK => ?_) | refine t_rd (by decide) (fun K hK => ?_)
           simp only [Xa, Xb, Xc, Xd, Xe, Xf, Xg, Xh, Xi, Xj, Xk, Xl, Xm, Xn, Xo, Xp, Xq, Xr, Xs, Xt, Xu, Xv, Xw, Xx, Xy, Xz, XA, XB, XD, XE, XF, XG, XH, XI, ev, XJ, upd, args1, args2, args3, args4, XK, XL, XM, extL, XN, XO, XP, XQ, XR, XT, XU, XV, XW, XX, XY, XZ, X0, X1, X2, X3, Addr.add, ↓reduceIte, Nat.reduceLT, Nat.reduceEqDiff, Nat.zero_add, Nat.reduceAdd, Option.map_some, X4, List.getElem_toArray, List.getElem_cons_zero, List.getElem_cons_succ, hf0, hf4, hf5, iA, lA, hul, hd2]
           refine hK _ ?_
           clear hK K))
      refine t_done ?_
      refine t_true rfl ?_
      refine t_skip ?_
      refine t_seq ?_
      refine t_block ?_
      refine t_seq ?_
      refine t_region ?_
      iterate 7 (first
        | (refine t_skG rfl (by decide) rfl ?_)
        | (refine t_skU rfl (by decide) rfl ?_)
        | (first | refine t_rdG (by decide) rfl (by decide) rfl (fun K hK => ?_) | refine t_rd (by decide) (fun K hK => ?_)
           simp only [Xa, Xb, Xc, Xd, Xe, Xf, Xg, Xh, Xi, Xj, Xk, Xl, Xm, Xn, Xo, Xp, Xq, Xr, Xs, Xt, Xu, Xv, Xw, Xx, Xy, Xz, XA, XB, XD, XE, XF, XG, XH, XI, ev, XJ, upd, args1, args2, args3, args4, XK, XL, XM, extL, XN, XO, XP, XQ, XR, XT, XU, XV, XW, XX, XY, XZ, X0, X1, X2, X3, Addr.add, ↓reduceIte, Nat.reduceLT, Nat.reduceEqDiff, Nat.zero_add, Nat.reduceAdd, Option.map_some, X4, List.getElem_toArray, List.getElem_cons_zero, List.getElem_cons_succ, hf0, hf4, hf5, iA, lA, iB, wB]
           refine hK _ ?_
           clear hK K))
      refine t_alloc (by decide) (zero37 _) ?_
      intro m1 O3 w3 n3
      refine t_store (sz := 4) (m := m1) (off := 0) [.string e.key, .int .i64 e.seq, .bool e.del, .string e.val] (by decide) rfl (by simp only [Xa, Xb, Xc, Xd, Xe, Xf, Xg, Xh, Xi, Xj, Xk, Xl, Xm, Xn, Xo, Xp, Xq, Xr, Xs, Xt, Xu, Xv, Xw, Xx, Xy, Xz, XA, XB, XD, XE, XF, XG, XH, XI, ev, XJ, upd, args1, args2, args3, args4, XK, XL, XM, extL, XN, XO, XP, XQ, XR, XT, XU, XV, XW, XX, XY, XZ, X0, X1, X2, X3, Addr.add, ↓reduceIte, Nat.reduceLT, Nat.reduceEqDiff, Nat.zero_add, Nat.reduceAdd, Option.map_some, X4, List.getElem_toArray, List.getElem_cons_zero, List.getElem_cons_succ]) (by simp only [Xa, Xb, Xc, Xd, Xe, Xf, Xg, Xh, Xi, Xj, Xk, Xl, Xm, Xn, Xo, Xp, Xq, Xr, Xs, Xt, Xu, Xv, Xw, Xx, Xy, Xz, XA, XB, XD, XE, XF, XG, XH, XI, ev, XJ, upd, args1, args2, args3, args4, XK, XL, XM, extL, XN, XO, XP, XQ, XR, XT, XU, XV, XW, XX, XY, XZ, X0, X1, X2, X3, Addr.add, ↓reduceIte, Nat.reduceLT, Nat.reduceEqDiff, Nat.zero_add, Nat.reduceAdd, Option.map_some, X4, List.getElem_toArray, List.getElem_cons_zero, List.getElem_cons_succ]; rfl) rfl (by simp [one?]) (.inl n3.tag) n3.obj (by decide) ?_
      intro O4 w4 w5 r4 hm5 ht5 hb5
      have r25 : Rel x O2 w2 O4 w5 := (n3.rel.trans r4).mod hm5 n3.ge
      have r5 := r2.trans r25
      have t5 : O4.tag m1 = .mine x.id := ht5.trans n3.tag
      have l0 : ldOf x O4 w5 ⟨m1, 0, none⟩ = some (.string e.key) := ldOf_of (.inl t5) (by unfold World.cell?; rw [hb5]; rfl)
      have l1 : ldOf x O4 w5 ⟨m1, 1, none⟩ = some (.int .i64 e.seq) := ldOf_of (.inl t5) (by unfold World.cell?; rw [hb5]; rfl)
      have l2 : ldOf x O4 w5 ⟨m1, 2, none⟩ = some (.bool e.del) := ldOf_of (.inl t5) (by unfold World.cell?; rw [hb5]; rfl)
      have l3 : ldOf x O4 w5 ⟨m1, 3, none⟩ = some (.string e.val) := ldOf_of (.inl t5) (by unfold World.cell?; rw [hb5]; rfl)
      have lw : loadN (ldOf x O4 w5) 4 (.pointer (some ⟨m1, 0, none⟩)) = some (.value e.v) := loadN4 (by rw [add_none]; exact l0) (by rw [add_none]; exact l1) (by rw [add_none]; exact l2) (by rw [add_none]; exact l3)
      have htwo5 := htwo.rely r25
      refine t_done ?_
      refine t_seq ?_
      refine t_seq ?_
      refine t_region ?_
      iterate 2 (first
        | (refine t_skG rfl (by decide) rfl ?_)
        | (refine t_skU rfl (by decide) rfl ?_)
        | (first | refine t_rdG (by decide) rfl (by decide) rfl (fun K hK => ?_) | refine t_rd (by decide) (fun K hK => ?_)
           simp only [Xa, Xb, Xc, Xd, Xe, Xf, Xg, Xh, Xi, Xj, Xk, Xl, Xm, Xn, Xo, Xp, Xq, Xr, Xs, Xt, Xu, Xv, Xw, Xx, Xy, Xz, XA, XB, XD, XE, XF, XG, XH, XI, ev, XJ, upd, args1, args2, args3, args4, XK, XL, XM, extL, XN, XO, XP, XQ, XR, XT, XU, XV, XW, XX, XY, XZ, X0, X1, X2, X3, Addr.add, ↓reduceIte, Nat.reduceLT, Nat.reduceEqDiff, Nat.zero_add, Nat.reduceAdd, Option.map_some, X4, List.getElem_toArray, List.getElem_cons_zero, List.getElem_cons_succ, hf3, lw]
           refine hK _ ?_
           clear hK K))
      refine t_callA #[s, e.v] (by decide) Try.func31 nm31 rfl (by simp only [List.map_toArray, List.map_cons, List.map_nil, Xa, Xb, Xc, Xd, Xe, Xf, Xg, Xh, Xi, Xj, Xk, Xl, Xm, Xn, Xo, Xp, Xq, Xr, Xs, Xt, Xu, Xv, Xw, Xx, Xy, Xz, XA, XB, XD, XE, XF, XG, XH, XI, ev, XJ, upd, args1, args2, args3, args4, XK, XL, XM, extL, XN, XO, XP, XQ, XR, XT, XU, XV, XW, XX, XY, XZ, X0, X1, X2, X3, Addr.add, ↓reduceIte, Nat.reduceLT, Nat.reduceEqDiff, Nat.zero_add, Nat.reduceAdd, Option.map_some, X4, List.getElem_toArray, List.getElem_cons_zero, List.getElem_cons_succ]) ?_
      intro c2 hret
      refine has_M out e s O4 w5 c2 _ htwo5.fst (by omega) ?_
      intro O6 w6 r6
      refine hret _ O6 w6 ?_
      clear hret
      have htwo6 := htwo5.rely r6
      have lw6 : loadN (ldOf x O6 w6) 4 (.pointer (some ⟨m1, 0, none⟩)) = some (.value e.v) := loadN4 (by rw [add_none]; exact ldOf_rely r6 l0) (by rw [add_none]; exact ldOf_rely r6 l1) (by rw [add_none]; exact ldOf_rely r6 l2) (by rw [add_none]; exact ldOf_rely r6 l3)
      -- on to the next entry
      have goOn : ∀ (s' : Value) (f' : Nat → Value) (O' : Gh) (w' : World), Rel x O w O' w' → f' 0 = v → f' 3 = s' → f' 4 = .int .i64 (i : Int) → f' 5 = .int .i64 (k : Int) → Two 4 x w.heap.size w.heap.size O' w' s' ((insL out e).map Ent.cells) (.slice none 0 0) [] →
          Tree P x St O' (G (Fr (base 13) 65 f' [] [.code (tlC (tlC loopB13)), .inLoop loopB13, .inBlock 2, .inBlock 1, .code (tlC (tlC loopA13)), .inLoop loopA13, .inBlock 0, .code rest17m]) (c :: cs)) w' := by
        intro s' f' O' w' r' g0 g3 g4 g5 ht'
        refine t_region ?_
        repeat (first
          | (refine t_skG rfl (by decide) rfl ?_)
          | (refine t_skU rfl (by decide) rfl ?_)
          | (first | refine t_rdG (by decide) rfl (by decide) rfl (fun K hK => ?_) | refine t_rd (by decide) (fun K hK => ?_)
             simp only [Xa, Xb, Xc, Xd, Xe, Xf, Xg, Xh, Xi, Xj, Xk, Xl, Xm, Xn, Xo, Xp, Xq, Xr, Xs, Xt, Xu, Xv, Xw, Xx, Xy, Xz, XA, XB, XD, XE, XF, XG, XH, XI, ev, XJ, upd, args1, args2, args3, args4, XK, XL, XM, extL, XN, XO, XP, XQ, XR, XT, XU, XV, XW, XX, XY, XZ, X0, X1, X2, X3, Addr.add, ↓reduceIte, Nat.reduceLT, Nat.reduceEqDiff, Nat.zero_add, Nat.reduceAdd, Option.map_some, X4, List.getElem_toArray, List.getElem_cons_zero, List.getElem_cons_succ, g5, hw3]
             refine hK _ ?_
             clear hK K))
        refine t_done ?_
        refine t_inLoop ?_
        have := insL_len out e
        exact ih2 (l.length - (k + 1)) _ O' w' (by omega) ⟨r', g0, g4, k + 1, s', insL out e, g3, rfl, rfl, by omega, by omega, hfold, ht'⟩
      cases hh : hasL out e with
      | true =>
        repeat (first
          | (refine t_skG rfl (by decide) rfl ?_)
          | (refine t_skU rfl (by decide) rfl ?_)
          | (first | refine t_rdG (by decide) rfl (by decide) rfl (fun K hK => ?_) | refine t_rd (by decide) (fun K hK => ?_)
             simp only [Xa, Xb, Xc, Xd, Xe, Xf, Xg, Xh, Xi, Xj, Xk, Xl, Xm, Xn, Xo, Xp, Xq, Xr, Xs, Xt, Xu, Xv, Xw, Xx, Xy, Xz, XA, XB, XD, XE, XF, XG, XH, XI, ev, XJ, upd, args1, args2, args3, args4, XK, XL, XM, extL, XN, XO, XP, XQ, XR, XT, XU, XV, XW, XX, XY, XZ, X0, X1, X2, X3, Addr.add, ↓reduceIte, Nat.reduceLT, Nat.reduceEqDiff, Nat.zero_add, Nat.reduceAdd, Option.map_some, X4, List.getElem_toArray, List.getElem_cons_zero, List.getElem_cons_succ]
             refine hK _ ?_
             clear hK K))
        refine t_done ?_
        refine t_true rfl ?_
        refine t_exit rfl ?_
        refine goOn s _ O6 w6 (r5.trans r6) hf0 hf3 hf4 hf5 ?_
        rw [show insL out e = out from by unfold insL; rw [hh]; rfl]
        exact htwo6
      | false =>
        have hins : insL out e = out.takeWhile (fun a => bef a e) ++ [e] ++ out.dropWhile (fun a => bef a e) := by unfold insL; rw [hh]; rfl
        repeat (first
          | (refine t_skG rfl (by decide) rfl ?_)
          | (refine t_skU rfl (by decide) rfl ?_)
          | (first | refine t_rdG (by decide) rfl (by decide) rfl (fun K hK => ?_) | refine t_rd (by decide) (fun K hK => ?_)
             simp only [Xa, Xb, Xc, Xd, Xe, Xf, Xg, Xh, Xi, Xj, Xk, Xl, Xm, Xn, Xo, Xp, Xq, Xr, Xs, Xt, Xu, Xv, Xw, Xx, Xy, Xz, XA, XB, XD, XE, XF, XG, XH, XI, ev, XJ, upd, args1, args2, args3, args4, XK, XL, XM, extL, XN, XO, XP, XQ, XR, XT, XU, XV, XW, XX, XY, XZ, X0, X1, X2, X3, Addr.add, ↓reduceIte, Nat.reduceLT, Nat.reduceEqDiff, Nat.zero_add, Nat.reduceAdd, Option.map_some, X4, List.getElem_toArray, List.getElem_cons_zero, List.getElem_cons_succ]
             refine hK _ ?_
             clear hK K))
        refine t_done ?_
        refine t_false rfl ?_
        refine t_skip ?_
        refine t_seq ?_
        refine t_region ?_
        repeat (first
          | (refine t_skG rfl (by decide) rfl ?_)
          | (refine t_skU rfl (by decide) rfl ?_)
          | (first | refine t_rdG (by decide) rfl (by decide) rfl (fun K hK => ?_) | refine t_rd (by decide) (fun K hK => ?_)
             simp only [Xa, Xb, Xc, Xd, Xe, Xf, Xg, Xh, Xi, Xj, Xk, Xl, Xm, Xn, Xo, Xp, Xq, Xr, Xs, Xt, Xu, Xv, Xw, Xx, Xy, Xz, XA, XB, XD, XE, XF, XG, XH, XI, ev, XJ, upd, args1, args2, args3, args4, XK, XL, XM, extL, XN, XO, XP, XQ, XR, XT, XU, XV, XW, XX, XY, XZ, X0, X1, X2, X3, Addr.add, ↓reduceIte, Nat.reduceLT, Nat.reduceEqDiff, Nat.zero_add, Nat.reduceAdd, Option.map_some, X4, List.getElem_toArray, List.getElem_cons_zero, List.getElem_cons_succ]
             refine hK _ ?_
             clear hK K))
        refine t_done ?_
        refine t_seq ?_
        refine t_region ?_
        repeat (first
          | (refine t_skG rfl (by decide) rfl ?_)
          | (refine t_skU rfl (by decide) rfl ?_)
          | (first | refine t_rdG (by decide) rfl (by decide) rfl (fun K hK => ?_) | refine t_rd (by decide) (fun K hK => ?_)
             simp only [Xa, Xb, Xc, Xd, Xe, Xf, Xg, Xh, Xi, Xj, Xk, Xl, Xm, Xn, Xo, Xp, Xq, Xr, Xs, Xt, Xu, Xv, Xw, Xx, Xy, Xz, XA, XB, XD, XE, XF, XG, XH, XI, ev, XJ, upd, args1, args2, args3, args4, XK, XL, XM, extL, XN, XO, XP, XQ, XR, XT, XU, XV, XW, XX, XY, XZ, X0, X1, X2, X3, Addr.add, ↓reduceIte, Nat.reduceLT, Nat.reduceEqDiff, Nat.zero_add, Nat.reduceAdd, Option.map_some, X4, List.getElem_toArray, List.getElem_cons_zero, List.getElem_cons_succ]
             refine hK _ ?_
             clear hK K))
        refine t_done ?_
        refine t_seq ?_
        refine t_block ?_
        refine t_loop ?_
        have rb := r5.trans r6
        refine t_while (fun m f O' w' => Rel x O6 w6 O' w' ∧ f 0 = v ∧ f 3 = s ∧ f 4 = .int .i64 (i : Int) ∧ f 5 = .int .i64 (k : Int) ∧ f 6 = .pointer (some ⟨m1, 0, none⟩) ∧ ∃ (n : Nat) (s2 : Value), f 7 = s2 ∧ f 8 = .int .i64 (n : Int) ∧ m = out.length - n ∧ n ≤ out.length ∧ (∀ (q : Nat) (a : Ent), q < n → out[q]? = some a → bef a e = true) ∧ Two 4 x w.heap.size w6.heap.size O' w' s (out.map Ent.cells) s2 ((out.take n).map Ent.cells))
          out.length ⟨Rel.refl _ _ _, hf0, hf3, hf4, hf5, rfl, 0, .slice none 0 0, rfl, rfl, rfl, Nat.zero_le _, fun q a hq => by omega, htwo6.nil2 (Nat.le_refl _)⟩ ?_
        clear hf0 hf3 hf4 hf5
        rintro m3 f7 O7 w7 ⟨r7, hf0, hf3, hf4, hf5, hf6, n, s2, hf7, hf8, hm3, hn, hall, htwo7⟩ ih3
        have hso : SlE (ldOf x O7 w7) s out := htwo7.fst
        have hlo := hso.len
        have lw7 : loadN (ldOf x O7 w7) 4 (.pointer (some ⟨m1, 0, none⟩)) = some (.value e.v) := loadN4 (by rw [add_none]; exact ldOf_rely (r6.trans r7) l0) (by rw [add_none]; exact ldOf_rely (r6.trans r7) l1) (by rw [add_none]; exact ldOf_rely (r6.trans r7) l2) (by rw [add_none]; exact ldOf_rely (r6.trans r7) l3)
        have hw4 : IntKind.i64.wrap ((n : Int) + 1) = ((n + 1 : Nat) : Int) := by rw [wrap64] <;> omega
        have hwle : w.heap.size ≤ w6.heap.size := rb.size
        -- the entry is put in, the rest behind it
        have putIn : ∀ (f' : Nat → Value) (O' : Gh) (w' : World), Rel x O7 w7 O' w' → f' 0 = v → f' 3 = s → f' 4 = .int .i64 (i : Int) → f' 5 = .int .i64 (k : Int) → f' 6 = .pointer (some ⟨m1, 0, none⟩) → f' 7 = s2 → f' 8 = .int .i64 (n : Int) → (∀ a, out[n]? = some a → bef a e = false) →
            Tree P x St O' (G (Fr (base 13) 65 f' [] [.code rest15m, .inBlock 3, .code (tlC (tlC loopB13)), .inLoop loopB13, .inBlock 2, .inBlock 1, .code (tlC (tlC loopA13)), .inLoop loopA13, .inBlock 0, .code rest17m]) (c :: cs)) w' := by
          intro f' O' w' r8 g0 g3 g4 g5 g6 g7 g8 hstop
          obtain ⟨htw, hdw⟩ := take_while_at hn hall hstop
          have lw8 : loadN (ldOf x O' w') 4 (.pointer (some ⟨m1, 0, none⟩)) = some (.value e.v) := loadN4 (by rw [add_none]; exact ldOf_rely ((r6.trans r7).trans r8) l0) (by rw [add_none]; exact ldOf_rely ((r6.trans r7).trans r8) l1) (by rw [add_none]; exact ldOf_rely ((r6.trans r7).trans r8) l2) (by rw [add_none]; exact ldOf_rely ((r6.trans r7).trans r8) l3)
          have htwo8 := htwo7.rely r8
          refine t_seq ?_
          refine t_region ?_
          iterate 2 (first
            | (refine t_skG rfl (by decide) rfl ?_)
            | (refine t_skU rfl (by decide) rfl ?_)
            | (first | refine t_rdG (by decide) rfl (by decide) rfl (fun K hK => ?_) | refine t_rd (by decide) (fun K hK => ?_)
               simp only [Xa, Xb, Xc, Xd, Xe, Xf, Xg, Xh, Xi, Xj, Xk, Xl, Xm, Xn, Xo, Xp, Xq, Xr, Xs, Xt, Xu, Xv, Xw, Xx, Xy, Xz, XA, XB, XD, XE, XF, XG, XH, XI, ev, XJ, upd, args1, args2, args3, args4, XK, XL, XM, extL, XN, XO, XP, XQ, XR, XT, XU, XV, XW, XX, XY, XZ, X0, X1, X2, X3, Addr.add, ↓reduceIte, Nat.reduceLT, Nat.reduceEqDiff, Nat.zero_add, Nat.reduceAdd, Option.map_some, X4, List.getElem_toArray, List.getElem_cons_zero, List.getElem_cons_succ, g6, g7, lw8]
               refine hK _ ?_
               clear hK K))
          refine t_buildSlice (sz := 4) (cells := e.cells) (pv := #[(0, e.v)]) Try.underlying25 rfl (by decide) zero37 (by decide) (by simp only [List.map_toArray, List.map_cons, List.map_nil, Xa, Xb, Xc, Xd, Xe, Xf, Xg, Xh, Xi, Xj, Xk, Xl, Xm, Xn, Xo, Xp, Xq, Xr, Xs, Xt, Xu, Xv, Xw, Xx, Xy, Xz, XA, XB, XD, XE, XF, XG, XH, XI, ev, XJ, upd, args1, args2, args3, args4, XK, XL, XM, extL, XN, XO, XP, XQ, XR, XT, XU, XV, XW, XX, XY, XZ, X0, X1, X2, X3, Addr.add, ↓reduceIte, Nat.reduceLT, Nat.reduceEqDiff, Nat.zero_add, Nat.reduceAdd, Option.map_some, X4, List.getElem_toArray, List.getElem_cons_zero, List.getElem_cons_succ]) (fun c0 h0 => by
            rw [fill_one (off := 0) (sz := 4) rfl rfl (by simp at h0; omega), Instr.fill]
            have : c0.toList.drop 4 = [] := List.drop_eq_nil_iff.2 (by simp; omega)
            simp [this, Value.cells, Ent.v]) ?_
          intro m9 O9 w9 h9
          obtain ⟨mc, hbc, hmc, happ⟩ := (htwo8.rely h9.rel).app
          refine t_append Try.underlying25 rfl rfl rfl (by decide) (by decide) (by decide) zero37 rfl (by decide) rfl rfl hbc h9.one (by simp; omega) (fun a ha => cells_ok [e] a (by simpa using ha)) ?_
          intro Oa wa m' s' Ob wb ra hmb hbb hmm
          have htb := happ Oa Ob wa wb m' s' _ ra hmb hbb hmm (by simp)
          have rab := ((r8.trans h9.rel).trans ra)
          have rb7 : Rel x O6 w6 Ob wb := (r7.trans rab).mod hmb hmc
          repeat (first
            | (refine t_skG rfl (by decide) rfl ?_)
            | (refine t_skU rfl (by decide) rfl ?_)
            | (first | refine t_rdG (by decide) rfl (by decide) rfl (fun K hK => ?_) | refine t_rd (by decide) (fun K hK => ?_)
               simp only [Xa, Xb, Xc, Xd, Xe, Xf, Xg, Xh, Xi, Xj, Xk, Xl, Xm, Xn, Xo, Xp, Xq, Xr, Xs, Xt, Xu, Xv, Xw, Xx, Xy, Xz, XA, XB, XD, XE, XF, XG, XH, XI, ev, XJ, upd, args1, args2, args3, args4, XK, XL, XM, extL, XN, XO, XP, XQ, XR, XT, XU, XV, XW, XX, XY, XZ, X0, X1, X2, X3, Addr.add, ↓reduceIte, Nat.reduceLT, Nat.reduceEqDiff, Nat.zero_add, Nat.reduceAdd, Option.map_some, X4, List.getElem_toArray, List.getElem_cons_zero, List.getElem_cons_succ]
               refine hK _ ?_
               clear hK K))
          refine t_done ?_
          refine t_region ?_
          iterate 3 (first
            | (refine t_skG rfl (by decide) rfl ?_)
            | (refine t_skU rfl (by decide) rfl ?_)
            | (first | refine t_rdG (by decide) rfl (by decide) rfl (fun K hK => ?_) | refine t_rd (by decide) (fun K hK => ?_)
               simp only [Xa, Xb, Xc, Xd, Xe, Xf, Xg, Xh, Xi, Xj, Xk, Xl, Xm, Xn, Xo, Xp, Xq, Xr, Xs, Xt, Xu, Xv, Xw, Xx, Xy, Xz, XA, XB, XD, XE, XF, XG, XH, XI, ev, XJ, upd, args1, args2, args3, args4, XK, XL, XM, extL, XN, XO, XP, XQ, XR, XT, XU, XV, XW, XX, XY, XZ, X0, X1, X2, X3, Addr.add, ↓reduceIte, Nat.reduceLT, Nat.reduceEqDiff, Nat.zero_add, Nat.reduceAdd, Option.map_some, X4, List.getElem_toArray, List.getElem_cons_zero, List.getElem_cons_succ, g3, g8]
               refine hK _ ?_
               clear hK K))
          have hso2 : SlE (ldOf x Ob wb) s out := htb.fst
          obtain ⟨da, dm, dc, hds, hdle, hdsl⟩ := Sl.drop hso2 n (by simp; omega)
          refine t_val (by decide) (x_sliceLo (sz := 4) (a := da) (n := dm) (cap := dc) (l := n) (k := .i64) Try.underlying25 info37 _ _ (by show s = _; exact hds) (by simp only [Xa, Xb, Xc, Xd, Xe, Xf, Xg, Xh, Xi, Xj, Xk, Xl, Xm, Xn, Xo, Xp, Xq, Xr, Xs, Xt, Xu, Xv, Xw, Xx, Xy, Xz, XA, XB, XD, XE, XF, XG, XH, XI, ev, XJ, upd, args1, args2, args3, args4, XK, XL, XM, extL, XN, XO, XP, XQ, XR, XT, XU, XV, XW, XX, XY, XZ, X0, X1, X2, X3, Addr.add, ↓reduceIte, Nat.reduceLT, Nat.reduceEqDiff, Nat.zero_add, Nat.reduceAdd, Option.map_some, X4, List.getElem_toArray, List.getElem_cons_zero, List.getElem_cons_succ]) (by omega)) ?_
          obtain ⟨md, hbd, hmd, happ2⟩ := htb.app
          refine t_append Try.underlying25 rfl rfl rfl (by decide) (by decide) (by decide) zero37 rfl (by decide) rfl rfl hbd hdsl (by simp; omega) (fun a ha => cells_ok out a (List.mem_of_mem_drop ha)) ?_
          intro Oe we m'' s'' Of wf re hmf hbf hmm2
          have htf := happ2 Oe Of we wf m'' s'' _ re hmf hbf hmm2 (by simp)
          have rf : Rel x O6 w6 Of wf := (rb7.trans re).mod hmf hmd
          repeat (first
            | (refine t_skG rfl (by decide) rfl ?_)
            | (refine t_skU rfl (by decide) rfl ?_)
            | (first | refine t_rdG (by decide) rfl (by decide) rfl (fun K hK => ?_) | refine t_rd (by decide) (fun K hK => ?_)
               simp only [Xa, Xb, Xc, Xd, Xe, Xf, Xg, Xh, Xi, Xj, Xk, Xl, Xm, Xn, Xo, Xp, Xq, Xr, Xs, Xt, Xu, Xv, Xw, Xx, Xy, Xz, XA, XB, XD, XE, XF, XG, XH, XI, ev, XJ, upd, args1, args2, args3, args4, XK, XL, XM, extL, XN, XO, XP, XQ, XR, XT, XU, XV, XW, XX, XY, XZ, X0, X1, X2, X3, Addr.add, ↓reduceIte, Nat.reduceLT, Nat.reduceEqDiff, Nat.zero_add, Nat.reduceAdd, Option.map_some, X4, List.getElem_toArray, List.getElem_cons_zero, List.getElem_cons_succ]
               refine hK _ ?_
               clear hK K))
          refine t_done ?_
          refine t_inBlock ?_
          refine goOn s'' _ Of wf (rb.trans rf) g0 rfl g4 g5 ?_
          have := htf.swap (by simp) hwle
          rw [hins, htw, hdw]
          simpa [List.map_take, List.map_drop] using this
        refine t_seq ?_
        refine t_seq ?_
        refine t_drawn rfl (by decide) ?_
        by_cases hnlt : n < out.length
        · have hd3 : decide ((n : Int) < (out.length : Int)) = true := decide_eq_true (by omega)
          have han := List.getElem?_eq_getElem hnlt
          generalize out[n] = an at han
          obtain ⟨C, hC⟩ := hso.at han
          have iC := hC.idx
          have wC := hC.whole
          iterate 10 (first
            | (refine d_skG rfl (by decide) rfl ?_)
            | (refine d_skU rfl (by decide) rfl ?_)
            | (first | refine d_rdG rfl (by decide) rfl (fun K hK => ?_) | refine d_rd (fun K hK => ?_)
               simp only [Xa, Xb, Xc, Xd, Xe, Xf, Xg, Xh, Xi, Xj, Xk, Xl, Xm, Xn, Xo, Xp, Xq, Xr, Xs, Xt, Xu, Xv, Xw, Xx, Xy, Xz, XA, XB, XD, XE, XF, XG, XH, XI, ev, XJ, upd, args1, args2, args3, args4, XK, XL, XM, extL, XN, XO, XP, XQ, XR, XT, XU, XV, XW, XX, XY, XZ, X0, X1, X2, X3, Addr.add, ↓reduceIte, Nat.reduceLT, Nat.reduceEqDiff, Nat.zero_add, Nat.reduceAdd, Option.map_some, X4, List.getElem_toArray, List.getElem_cons_zero, List.getElem_cons_succ, hf3, hf6, hf8, hlo, hd3, iC, wC, lw7]
               refine hK _ ?_
               clear hK K))
          refine d_call0 (v := .bool (bef an e)) (vals := #[an.v, e.v]) (by decide) (wanted_of (j := 4) (d := 38) (t := true) (z := true) rfl rfl (by decide) rfl) rfl Try.func15 rfl rfl (by simp only [List.map_toArray, List.map_cons, List.map_nil, Xa, Xb, Xc, Xd, Xe, Xf, Xg, Xh, Xi, Xj, Xk, Xl, Xm, Xn, Xo, Xp, Xq, Xr, Xs, Xt, Xu, Xv, Xw, Xx, Xy, Xz, XA, XB, XD, XE, XF, XG, XH, XI, ev, XJ, upd, args1, args2, args3, args4, XK, XL, XM, extL, XN, XO, XP, XQ, XR, XT, XU, XV, XW, XX, XY, XZ, X0, X1, X2, X3, Addr.add, ↓reduceIte, Nat.reduceLT, Nat.reduceEqDiff, Nat.zero_add, Nat.reduceAdd, Option.map_some, X4, List.getElem_toArray, List.getElem_cons_zero, List.getElem_cons_succ]) ?_ ?_
          · intro c2 O8 w8 r8 h8
            exact Before_M an e O8 w8 c2 _ h8
          ·
            repeat (first
              | (refine d_skG rfl (by decide) rfl ?_)
              | (refine d_skU rfl (by decide) rfl ?_)
              | (first | refine d_rdG rfl (by decide) rfl (fun K hK => ?_) | refine d_rd (fun K hK => ?_)
                 simp only [Xa, Xb, Xc, Xd, Xe, Xf, Xg, Xh, Xi, Xj, Xk, Xl, Xm, Xn, Xo, Xp, Xq, Xr, Xs, Xt, Xu, Xv, Xw, Xx, Xy, Xz, XA, XB, XD, XE, XF, XG, XH, XI, ev, XJ, upd, args1, args2, args3, args4, XK, XL, XM, extL, XN, XO, XP, XQ, XR, XT, XU, XV, XW, XX, XY, XZ, X0, X1, X2, X3, Addr.add, ↓reduceIte, Nat.reduceLT, Nat.reduceEqDiff, Nat.zero_add, Nat.reduceAdd, Option.map_some, X4, List.getElem_toArray, List.getElem_cons_zero, List.getElem_cons_succ]
                 refine hK _ ?_
                 clear hK K))
            refine d_done ?_
            intro O8 w8 r8
            cases hbe : bef an e with
            | false =>
              refine t_false (by first | (simp only [Xa, Xb, Xc, Xd, Xe, Xf, Xg, Xh, Xi, Xj, Xk, Xl, Xm, Xn, Xo, Xp, Xq, Xr, Xs, Xt, Xu, Xv, Xw, Xx, Xy, Xz, XA, XB, XD, XE, XF, XG, XH, XI, ev, XJ, upd, args1, args2, args3, args4, XK, XL, XM, extL, XN, XO, XP, XQ, XR, XT, XU, XV, XW, XX, XY, XZ, X0, X1, X2, X3, Addr.add, ↓reduceIte, Nat.reduceLT, Nat.reduceEqDiff, Nat.zero_add, Nat.reduceAdd, Option.map_some, X4, List.getElem_toArray, List.getElem_cons_zero, List.getElem_cons_succ, hbe]; done) | (simp only [Xa, Xb, Xc, Xd, Xe, Xf, Xg, Xh, Xi, Xj, Xk, Xl, Xm, Xn, Xo, Xp, Xq, Xr, Xs, Xt, Xu, Xv, Xw, Xx, Xy, Xz, XA, XB, XD, XE, XF, XG, XH, XI, ev, XJ, upd, args1, args2, args3, args4, XK, XL, XM, extL, XN, XO, XP, XQ, XR, XT, XU, XV, XW, XX, XY, XZ, X0, X1, X2, X3, Addr.add, ↓reduceIte, Nat.reduceLT, Nat.reduceEqDiff, Nat.zero_add, Nat.reduceAdd, Option.map_some, X4, List.getElem_toArray, List.getElem_cons_zero, List.getElem_cons_succ, hbe]; rfl)) ?_
              refine t_exit rfl ?_
              exact putIn _ O8 w8 r8 hf0 hf3 hf4 hf5 hf6 hf7 hf8 fun a ha => by rw [han] at ha; cases ha; exact hbe
            | true =>
              refine t_true (by first | (simp only [Xa, Xb, Xc, Xd, Xe, Xf, Xg, Xh, Xi, Xj, Xk, Xl, Xm, Xn, Xo, Xp, Xq, Xr, Xs, Xt, Xu, Xv, Xw, Xx, Xy, Xz, XA, XB, XD, XE, XF, XG, XH, XI, ev, XJ, upd, args1, args2, args3, args4, XK, XL, XM, extL, XN, XO, XP, XQ, XR, XT, XU, XV, XW, XX, XY, XZ, X0, X1, X2, X3, Addr.add, ↓reduceIte, Nat.reduceLT, Nat.reduceEqDiff, Nat.zero_add, Nat.reduceAdd, Option.map_some, X4, List.getElem_toArray, List.getElem_cons_zero, List.getElem_cons_succ, hbe]; done) | (simp only [Xa, Xb, Xc, Xd, Xe, Xf, Xg, Xh, Xi, Xj, Xk, Xl, Xm, Xn, Xo, Xp, Xq, Xr, Xs, Xt, Xu, Xv, Xw, Xx, Xy, Xz, XA, XB, XD, XE, XF, XG, XH, XI, ev, XJ, upd, args1, args2, args3, args4, XK, XL, XM, extL, XN, XO, XP, XQ, XR, XT, XU, XV, XW, XX, XY, XZ, X0, X1, X2, X3, Addr.add, ↓reduceIte, Nat.reduceLT, Nat.reduceEqDiff, Nat.zero_add, Nat.reduceAdd, Option.map_some, X4, List.getElem_toArray, List.getElem_cons_zero, List.getElem_cons_succ, hbe]; rfl)) ?_
              refine t_skip ?_
              refine t_block ?_
              have htwo8 := htwo7.rely r8
              have hso8 : SlE (ldOf x O8 w8) s out := htwo8.fst
              obtain ⟨D, hD⟩ := hso8.at han
              have iD := hD.idx
              have wD := hD.whole
              refine t_seq ?_
              refine t_region ?_
              iterate 5 (first
                | (refine t_skG rfl (by decide) rfl ?_)
                | (refine t_skU rfl (by decide) rfl ?_)
                | (first | refine t_rdG (by decide) rfl (by decide) rfl (fun K hK => ?_) | refine t_rd (by decide) (fun K hK => ?_)
                   simp only [Xa, Xb, Xc, Xd, Xe, Xf, Xg, Xh, Xi, Xj, Xk, Xl, Xm, Xn, Xo, Xp, Xq, Xr, Xs, Xt, Xu, Xv, Xw, Xx, Xy, Xz, XA, XB, XD, XE, XF, XG, XH, XI, ev, XJ, upd, args1, args2, args3, args4, XK, XL, XM, extL, XN, XO, XP, XQ, XR, XT, XU, XV, XW, XX, XY, XZ, X0, X1, X2, X3, Addr.add, ↓reduceIte, Nat.reduceLT, Nat.reduceEqDiff, Nat.zero_add, Nat.reduceAdd, Option.map_some, X4, List.getElem_toArray, List.getElem_cons_zero, List.getElem_cons_succ, hf3, hf7, hf8, iD, wD]
                   refine hK _ ?_
                   clear hK K))
              refine t_buildSlice (sz := 4) (cells := an.cells) (pv := #[(0, an.v)]) Try.underlying25 rfl (by decide) zero37 (by decide) (by simp only [List.map_toArray, List.map_cons, List.map_nil, Xa, Xb, Xc, Xd, Xe, Xf, Xg, Xh, Xi, Xj, Xk, Xl, Xm, Xn, Xo, Xp, Xq, Xr, Xs, Xt, Xu, Xv, Xw, Xx, Xy, Xz, XA, XB, XD, XE, XF, XG, XH, XI, ev, XJ, upd, args1, args2, args3, args4, XK, XL, XM, extL, XN, XO, XP, XQ, XR, XT, XU, XV, XW, XX, XY, XZ, X0, X1, X2, X3, Addr.add, ↓reduceIte, Nat.reduceLT, Nat.reduceEqDiff, Nat.zero_add, Nat.reduceAdd, Option.map_some, X4, List.getElem_toArray, List.getElem_cons_zero, List.getElem_cons_succ]) (fun c0 h0 => by
                rw [fill_one (off := 0) (sz := 4) rfl rfl (by simp at h0; omega), Instr.fill]
                have : c0.toList.drop 4 = [] := List.drop_eq_nil_iff.2 (by simp; omega)
                simp [this, Value.cells, Ent.v]) ?_
              intro m9 O9 w9 h9
              obtain ⟨mc, hbc, hmc, happ⟩ := (htwo8.rely h9.rel).app
              refine t_append Try.underlying25 rfl rfl rfl (by decide) (by decide) (by decide) zero37 rfl (by decide) rfl rfl hbc h9.one (by simp; omega) (fun a ha => cells_ok [an] a (by simpa using ha)) ?_
              intro Oa wa m' s' Ob wb ra hmb hbb hmm
              have htb := happ Oa Ob wa wb m' s' _ ra hmb hbb hmm (by simp)
              have rab := ((r8.trans h9.rel).trans ra)
              have rb7 : Rel x O6 w6 Ob wb := (r7.trans rab).mod hmb hmc
              repeat (first
                | (refine t_skG rfl (by decide) rfl ?_)
                | (refine t_skU rfl (by decide) rfl ?_)
                | (first | refine t_rdG (by decide) rfl (by decide) rfl (fun K hK => ?_) | refine t_rd (by decide) (fun K hK => ?_)
                   simp only [Xa, Xb, Xc, Xd, Xe, Xf, Xg, Xh, Xi, Xj, Xk, Xl, Xm, Xn, Xo, Xp, Xq, Xr, Xs, Xt, Xu, Xv, Xw, Xx, Xy, Xz, XA, XB, XD, XE, XF, XG, XH, XI, ev, XJ, upd, args1, args2, args3, args4, XK, XL, XM, extL, XN, XO, XP, XQ, XR, XT, XU, XV, XW, XX, XY, XZ, X0, X1, X2, X3, Addr.add, ↓reduceIte, Nat.reduceLT, Nat.reduceEqDiff, Nat.zero_add, Nat.reduceAdd, Option.map_some, X4, List.getElem_toArray, List.getElem_cons_zero, List.getElem_cons_succ]
                   refine hK _ ?_
                   clear hK K))
              refine t_done ?_
              refine t_region ?_
              repeat (first
                | (refine t_skG rfl (by decide) rfl ?_)
                | (refine t_skU rfl (by decide) rfl ?_)
                | (first | refine t_rdG (by decide) rfl (by decide) rfl (fun K hK => ?_) | refine t_rd (by decide) (fun K hK => ?_)
                   simp only [Xa, Xb, Xc, Xd, Xe, Xf, Xg, Xh, Xi, Xj, Xk, Xl, Xm, Xn, Xo, Xp, Xq, Xr, Xs, Xt, Xu, Xv, Xw, Xx, Xy, Xz, XA, XB, XD, XE, XF, XG, XH, XI, ev, XJ, upd, args1, args2, args3, args4, XK, XL, XM, extL, XN, XO, XP, XQ, XR, XT, XU, XV, XW, XX, XY, XZ, X0, X1, X2, X3, Addr.add, ↓reduceIte, Nat.reduceLT, Nat.reduceEqDiff, Nat.zero_add, Nat.reduceAdd, Option.map_some, X4, List.getElem_toArray, List.getElem_cons_zero, List.getElem_cons_succ, hf8, hw4]
                   refine hK _ ?_
                   clear hK K))
              refine t_done ?_
              refine t_inBlock ?_
              refine t_inLoop ?_
              refine ih3 (out.length - (n + 1)) _ Ob wb (by omega) ⟨rb7, hf0, hf3, hf4, hf5, hf6, n + 1, s', rfl, rfl, rfl, by omega, fun q a hq ha => ?_, ?_⟩
              · by_cases e1 : q = n
                · subst e1; rw [han] at ha; cases ha; exact hbe
                · exact hall q a (by omega) ha
              · rw [take_succ' han, List.map_append]; exact htb
        · have hd3 : decide ((n : Int) < (out.length : Int)) = false := decide_eq_false (by omega)
          repeat (first
            | (refine d_skG rfl (by decide) rfl ?_)
            | (refine d_skU rfl (by decide) rfl ?_)
            | (first | refine d_rdG rfl (by decide) rfl (fun K hK => ?_) | refine d_rd (fun K hK => ?_)
               simp only [Xa, Xb, Xc, Xd, Xe, Xf, Xg, Xh, Xi, Xj, Xk, Xl, Xm, Xn, Xo, Xp, Xq, Xr, Xs, Xt, Xu, Xv, Xw, Xx, Xy, Xz, XA, XB, XD, XE, XF, XG, XH, XI, ev, XJ, upd, args1, args2, args3, args4, XK, XL, XM, extL, XN, XO, XP, XQ, XR, XT, XU, XV, XW, XX, XY, XZ, X0, X1, X2, X3, Addr.add, ↓reduceIte, Nat.reduceLT, Nat.reduceEqDiff, Nat.zero_add, Nat.reduceAdd, Option.map_some, X4, List.getElem_toArray, List.getElem_cons_zero, List.getElem_cons_succ, hf3, hf6, hf8, hlo, hd3]
               refine hK _ ?_
               clear hK K))
          refine d_done ?_
          intro O8 w8 r8
          refine t_false rfl ?_
          refine t_exit rfl ?_
          exact putIn _ O8 w8 r8 hf0 hf3 hf4 hf5 hf6 hf7 hf8 fun a ha => by
            rw [List.getElem?_eq_none (by omega)] at ha; cases ha
    · have hd2 : decide ((k : Int) < (l.length : Int)) = false := decide_eq_false (by omega)
      repeat (first
        | (refine t_skG rfl (by decide) rfl ?_)
        | (refine t_skU rfl (by decide) rfl ?_)
        | (first | refine t_rdG (by decide) rfl (by decide) rfl (fun K hK => ?_) | refine t_rd (by decide) (fun K hK => ?_)
           simp only [Xa, Xb, Xc, Xd, Xe, Xf, Xg, Xh, Xi, Xj, Xk, Xl, Xm, Xn, Xo, Xp, Xq, Xr, Xs, Xt, Xu, Xv, Xw, Xx, Xy, Xz, XA, XB, XD, XE, XF, XG, XH, XI, ev, XJ, upd, args1, args2, args3, args4, XK, XL, XM, extL, XN, XO, XP, XQ, XR, XT, XU, XV, XW, XX, XY, XZ, X0, X1, X2, X3, Addr.add, ↓reduceIte, Nat.reduceLT, Nat.reduceEqDiff, Nat.zero_add, Nat.reduceAdd, Option.map_some, X4, List.getElem_toArray, List.getElem_cons_zero, List.getElem_cons_succ, hf0, hf4, hf5, iA, lA, hul, hd2]
           refine hK _ ?_
           clear hK K))
      refine t_done ?_
      refine t_false rfl ?_
      refine t_exit rfl ?_
      refine t_inBlock ?_
      refine t_region ?_
      repeat (first
        | (refine t_skG rfl (by decide) rfl ?_)
        | (refine t_skU rfl (by decide) rfl ?_)
        | (first | refine t_rdG (by decide) rfl (by decide) rfl (fun K hK => ?_) | refine t_rd (by decide) (fun K hK => ?_)
           simp only [Xa, Xb, Xc, Xd, Xe, Xf, Xg, Xh, Xi, Xj, Xk, Xl, Xm, Xn, Xo, Xp, Xq, Xr, Xs, Xt, Xu, Xv, Xw, Xx, Xy, Xz, XA, XB, XD, XE, XF, XG, XH, XI, ev, XJ, upd, args1, args2, args3, args4, XK, XL, XM, extL, XN, XO, XP, XQ, XR, XT, XU, XV, XW, XX, XY, XZ, X0, X1, X2, X3, Addr.add, ↓reduceIte, Nat.reduceLT, Nat.reduceEqDiff, Nat.zero_add, Nat.reduceAdd, Option.map_some, X4, List.getElem_toArray, List.getElem_cons_zero, List.getElem_cons_succ, hf4, hw2]
           refine hK _ ?_
           clear hK K))
      refine t_done ?_
      refine t_inLoop ?_
      rw [List.drop_of_length_le (by omega), List.nil_append] at hfold hol
      exact ih (ls.length - (i + 1)) _ O2 w2 (by omega) ⟨r2, hf0, i + 1, s, out, hf3, rfl, rfl, by omega, hol, hfold, htwo⟩
  · have hd : decide ((i : Int) < (ls.length : Int)) = false := decide_eq_false (by omega)
    repeat (first
      | (refine t_skG rfl (by decide) rfl ?_)
      | (refine t_skU rfl (by decide) rfl ?_)
      | (first | refine t_rdG (by decide) rfl (by decide) rfl (fun K hK => ?_) | refine t_rd (by decide) (fun K hK => ?_)
         simp only [Xa, Xb, Xc, Xd, Xe, Xf, Xg, Xh, Xi, Xj, Xk, Xl, Xm, Xn, Xo, Xp, Xq, Xr, Xs, Xt, Xu, Xv, Xw, Xx, Xy, Xz, XA, XB, XD, XE, XF, XG, XH, XI, ev, XJ, upd, args1, args2, args3, args4, XK, XL, XM, extL, XN, XO, XP, XQ, XR, XT, XU, XV, XW, XX, XY, XZ, X0, X1, X2, X3, Addr.add, ↓reduceIte, Nat.reduceLT, Nat.reduceEqDiff, Nat.zero_add, Nat.reduceAdd, Option.map_some, X4, List.getElem_toArray, List.getElem_cons_zero, List.getElem_cons_succ, hf0, hf4, hl, hd]
         refine hK _ ?_
         clear hK K))
    refine t_done ?_
    refine t_false rfl ?_
    refine t_exit rfl ?_
    refine t_seq ?_
    refine t_region ?_
    repeat (first
      | (refine t_skG rfl (by decide) rfl ?_)
      | (refine t_skU rfl (by decide) rfl ?_)
      | (first | refine t_rdG (by decide) rfl (by decide) rfl (fun K hK => ?_) | refine t_rd (by decide) (fun K hK => ?_)
         simp only [Xa, Xb, Xc, Xd, Xe, Xf, Xg, Xh, Xi, Xj, Xk, Xl, Xm, Xn, Xo, Xp, Xq, Xr, Xs, Xt, Xu, Xv, Xw, Xx, Xy, Xz, XA, XB, XD, XE, XF, XG, XH, XI, ev, XJ, upd, args1, args2, args3, args4, XK, XL, XM, extL, XN, XO, XP, XQ, XR, XT, XU, XV, XW, XX, XY, XZ, X0, X1, X2, X3, Addr.add, ↓reduceIte, Nat.reduceLT, Nat.reduceEqDiff, Nat.zero_add, Nat.reduceAdd, Option.map_some, X4, List.getElem_toArray, List.getElem_cons_zero, List.getElem_cons_succ, hf3]
         refine hK _ ?_
         clear hK K))
    refine t_done ?_
    refine t_ret ?_
    refine t_leave1 rfl Try.func13 Try.results13 ?_
    rw [List.drop_of_length_le (by omega)] at hfold
    have hfold' : out = refMergeL ls := by simpa using hfold
    rw [← hfold'] at h
    obtain ⟨_, _, mb, _, _, _, _, hb, _⟩ := htwo
    exact h O1 w1 mb s r1 hb
end Go.Proofs.Ytdajdembeacefaa.M

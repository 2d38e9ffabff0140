/-
  BUFFERS that are written in place: an element is stored, the end is cleared. No condition.
  slices.Clone, slices.IndexFunc and slices.DeleteFunc with Compact's closure, walked.
  slices.DeleteFunc with Compact's closure; COMPACT itself.
  COMPACT, walked.
  PLAIN LAWS, 2 (no program): of lists in order, what Visible and Compact answer is the document's.
  THE LAW MergeViews, walked: it answers true.
-/
import Derived.Test.YtdajdembeacefaaCA
import Derived.Laws.Strings
set_option linter.unusedSimpArgs false
set_option linter.unusedVariables false
namespace Go.Proofs.Ytdajdembeacefaa.M
open Go.Conc

theorem flat_cons (a : Array Value) (cs : List (Array Value)) : flat (a :: cs) = a.toList ++ flat cs := by simp [flat]
theorem flat_set {sz : Nat} : ∀ {cs : List (Array Value)} {i : Nat} {q : Array Value}, (∀ a ∈ cs, a.size = sz) → i < cs.length → flat (cs.set i q) = (flat cs).take (i * sz) ++ q.toList ++ (flat cs).drop (i * sz + sz)
  | [], i, q, _, h => by simp at h
  | a :: cs, 0, q, h, _ => by
    have h1 : a.toList.length = sz := by simpa using h a (List.mem_cons_self ..)
    have h2 : a.size = sz := h a (List.mem_cons_self ..)
    rw [List.set_cons_zero, flat_cons, flat_cons]
    simp [List.drop_append, h2]
  | a :: cs, i + 1, q, h, hi => by
    have h1 : a.toList.length = sz := by simpa using h a (List.mem_cons_self ..)
    rw [List.set_cons_succ, flat_cons, flat_cons, flat_set (fun b hb => h b (List.mem_cons_of_mem _ hb)) (by simpa using hi)]
    have e1 : (i + 1) * sz = a.toList.length + i * sz := by rw [h1, Nat.add_mul]; omega
    rw [e1, List.take_append, List.drop_append]
    have e2 : a.toList.take (a.toList.length + i * sz) = a.toList := List.take_of_length_le (by omega)
    have e3 : a.toList.drop (a.toList.length + i * sz + sz) = [] := List.drop_eq_nil_iff.2 (by omega)
    rw [e2, e3, show a.toList.length + i * sz - a.toList.length = i * sz by omega, show a.toList.length + i * sz + sz - a.toList.length = i * sz + sz by omega]
    simp
theorem flat_take {sz : Nat} : ∀ {cs : List (Array Value)} {i : Nat}, (∀ a ∈ cs, a.size = sz) → (flat cs).take (i * sz) = flat (cs.take i)
  | [], i, _ => by simp [flat]
  | a :: cs, 0, _ => by simp [flat]
  | a :: cs, i + 1, h => by
    have h1 : a.toList.length = sz := by simpa using h a (List.mem_cons_self ..)
    rw [List.take_succ_cons, flat_cons, flat_cons, ← flat_take (sz := sz) (fun b hb => h b (List.mem_cons_of_mem _ hb))]
    have e1 : (i + 1) * sz = a.toList.length + i * sz := by rw [h1, Nat.add_mul]; omega
    rw [e1, List.take_append, List.take_of_length_le (by omega), show a.toList.length + i * sz - a.toList.length = i * sz by omega]
theorem put_take {c F vs : List Value} {off sz N : Nat} (hF : c.take N = F) (hN : F.length = N) (hv : vs.length = sz) (ho : off + sz ≤ N) : (c.take off ++ vs ++ c.drop (off + sz)).take N = F.take off ++ vs ++ F.drop (off + sz) := by
  have hc : c = F ++ c.drop N := by rw [← hF, List.take_append_drop]
  generalize c.drop N = R at hc
  subst hc
  have e1 : (F ++ R).take off = F.take off := by rw [List.take_append, show off - F.length = 0 by omega]; simp
  have e2 : (F ++ R).drop (off + sz) = F.drop (off + sz) ++ R := by rw [List.drop_append, show off + sz - F.length = 0 by omega]; simp
  rw [e1, e2, ← List.append_assoc]
  have : (F.take off ++ vs ++ F.drop (off + sz)).length = N := by simp; omega
  rw [List.take_append_of_le_length (by omega), List.take_of_length_le (by omega)]
/-- A buffer's block, where it holds something. -/
theorem Buf.blk {sz m : Nat} {x : Th} {O : Gh} {w : World} {s : Value} {cs : List (Array Value)} (h : Buf sz x O w m s cs) (hne : cs ≠ []) :
    ∃ cap c t, s = .slice (some ⟨m, 0, none⟩) cs.length cap ∧ O.tag m = .mine x.id ∧ w.heap[m]? = some (.cells c t (0, 0)) ∧ c.size = cap * sz ∧ cs.length ≤ cap ∧ c.toList.take (cs.length * sz) = flat cs := by
  obtain ⟨_, ⟨h, _⟩ | h⟩ := h
  · exact absurd h hne
  · exact h
theorem bin_eqlNil25 {L : Addr → Option Value} (x y : Operand) (a : Option Addr) (n c : Nat) : binL L .eql 25 x y (.slice a n c) (.slice none 0 0) = some (.value (.bool a.isNone)) := by
  simp only [binL, eqGuard, binOp, runL_bind, runL_pure, Op.equal, Op.maxDepth]
  rw [show (10000 : Nat) = 9999 + 1 from rfl, Op.equalIn]
  cases a with
  | none => simp [runL_bind, runL_pure, runL_underlying, Try.underlying25]
  | some a => simp [runL_bind, runL_pure, runL_underlying, Try.underlying25]
theorem wpS_clear (ty : TypeId) {x : Th} {O : Gh} {w : World} {K : Value → Gh → World → Prop} {m i n cp : Nat} {c : Array Value} {t : TypeId} (hn : 0 < n) (ht : O.tag m = .mine x.id) (hm : w.heap[m]? = some (.cells c t (0, 0))) (hl : i * 4 + n * 4 ≤ c.size)
    (hK : ∀ w' zs, w'.heap[m]? = some (.cells ((c.toList.take (i * 4) ++ zs ++ c.toList.drop (i * 4 + n * 4)).toArray) t (0, 0)) → zs.length = n * 4 → Mod O w O w' m → K (.tuple #[]) O w') :
    wpS P x K (Builtin.clear_ #[25] ty #[.slice (some ⟨m, i * 4, none⟩) n cp]) O w := by
  unfold Builtin.clear_
  simp only [List.getElem?_toArray, List.getElem?_cons_zero]
  refine wpS_rd (a := .slice 37) (by rw [runL_underlying]; exact Try.underlying25) ?_
  obtain ⟨n', rfl⟩ : ∃ n', n = n' + 1 := ⟨n - 1, by omega⟩
  simp only
  rw [wpS_bind]
  refine wpS_runL _ _ (zero37 _) ?_
  rw [wpS_bind]
  have hzl : (Builtin.zeroCells (Value.agg #[.string ⟨#[]⟩, .int .i64 0, .bool false, .string ⟨#[]⟩]).cells (n' + 1)).toList.length = (n' + 1) * 4 := by
    simp [Builtin.zeroCells, Value.cells]
  refine wpS_storeCells m (i * 4) t _ 0 c w (.inl ht) hm (by rw [hzl]; omega) (fun v hv => ?_) fun w' hw' hmod => ?_
  · simp only [Builtin.zeroCells, Array.toList_map, List.mem_map] at hv
    obtain ⟨k, _, rfl⟩ := hv
    have : k % 4 < 4 := Nat.mod_lt _ (by decide)
    show one? ((#[Value.string ⟨#[]⟩, .int .i64 0, .bool false, .string ⟨#[]⟩] : Array Value)[k % 4]!) = true
    rcases (show k % 4 = 0 ∨ k % 4 = 1 ∨ k % 4 = 2 ∨ k % 4 = 3 by omega) with h | h | h | h <;> rw [h] <;> rfl
  · rw [hzl, Nat.add_zero] at hw'
    exact hK w' _ hw' hzl hmod
section
variable {x : Th} {St : Gh → Goroutine → World → Prop} {O : Gh} {w : World} {b : Frame} {n : Nat} {f : Nat → Value} {ds : List Deferred} {k : List Item} {cs : List Frame} {all os : List Oper} {i : Nat} {d : Nat} {t : TypeId} {p : String} {e : Array Edge}
/-- An entry is stored into a buffer. -/
theorem t_putE {y z : Operand} {m j : Nat} {s : Value} {L : List Ent} {q : Ent} (hk : b.kind ≠ .early) (hb : Buf 4 x O w m s (L.map Ent.cells)) (hj : j < L.length) (hy : ev n f y = .pointer (some ⟨m, j * 4, none⟩)) (hz : ev n f z = q.v)
    (h : ∀ O1 w1 w', Rel x O w O1 w1 → Mod O1 w1 O1 w' m → Buf 4 x O1 w' m s ((L.set j q).map Ent.cells) → InReg P x St O1 w' b n f ds all k cs (i + 1) os) :
    InReg P x St O w b n f ds all k cs i (⟨none, .store 37 y z, t, p, e, none⟩ :: os) := by
  obtain ⟨cap, c, tt, hs, ht, hm, hc, hle, htk⟩ := hb.blk (by intro h0; have := congrArg List.length h0; simp at this; subst this; simp at hj)
  have hall : ∀ a ∈ L.map Ent.cells, a.size = 4 := fun a ha => by obtain ⟨u, _, rfl⟩ := List.mem_map.1 ha; rfl
  simp only [List.length_map] at hle htk hs
  have hsz : j * 4 + 4 ≤ c.size := by omega
  refine t_store (sz := 4) (m := m) (off := j * 4) [.string q.key, .int .i64 q.seq, .bool q.del, .string q.val] hk rfl hy (by rw [hz]; rfl) rfl (by simp [one?]) (.inl ht) hm hsz fun O1 w1 w' r hmod htt hb' => ?_
  refine h O1 w1 w' r hmod ⟨fun a ha => by obtain ⟨u, _, rfl⟩ := List.mem_map.1 ha; rfl, .inr ⟨cap, _, tt, by rw [List.length_map, List.length_set]; exact hs, htt.trans ht, hb', ?_, by rw [List.length_map, List.length_set]; exact hle, ?_⟩⟩
  · simp; omega
  · rw [List.length_map, List.length_set, List.map_set, flat_set hall (by simpa using hj)]
    have hfl : (flat (L.map Ent.cells)).length = L.length * 4 := by rw [flat_length hall, List.length_map]
    rw [List.toList_toArray, put_take (F := flat (L.map Ent.cells)) (sz := 4) htk hfl rfl (by omega)]
    rfl
end
end Go.Proofs.Ytdajdembeacefaa.M
set_option linter.unusedSimpArgs false
set_option linter.unusedVariables false
namespace Go.Proofs.Ytdajdembeacefaa.M
open Go.Conc

theorem nm34 : ((Try.f34).name == "runtime.NumGoroutine") = false := by kernel_rfl
theorem nm55 : ((Try.f55).name == "runtime.NumGoroutine") = false := by kernel_rfl

set_option maxHeartbeats 4000000 in
theorem Clone_M {x : Th} {St : Gh → Goroutine → World → Prop} (l : List Ent) (v : Value) (O : Gh) (w : World) (c : Frame) (cs : List Frame) (hv : SlE (ldOf x O w) v l) (hlen : l.length < 100000)
    (h : ∀ O' w' m s, Rel x O w O' w' → Buf 4 x O' w' m s (l.map Ent.cells) → w.heap.size ≤ m → Tree P x St O' (G (c.finish s) cs) w') :
    Tree P x St O (G (Frame.enter P 33 #[v] .normal) (c :: cs)) w := by
  rw [enter1 _ Try.func33 rfl Try.ntmps33 (by decide)]
  have hsl : ∃ a n cp, v = .slice a n cp ∧ (a = none → l = []) := by
    rcases hv with ⟨h, a, cp, rfl⟩ | ⟨b, o, cp, rfl, _⟩
    · exact ⟨a, 0, cp, rfl, fun _ => by simpa using h⟩
    · exact ⟨_, _, _, rfl, fun h => by cases h⟩
  obtain ⟨a, n, cp, hve, hnil⟩ := hsl
  refine t_seq ?_
  refine t_region ?_
  repeat (first
    | (refine t_skG rfl (by decide) rfl ?_)
    | (refine t_skU rfl (by decide) rfl ?_)
    | (first | refine t_rdG (by decide) rfl (by decide) rfl (fun K hK => ?_) | refine t_rd (by decide) (fun K hK => ?_)
       simp only [Xa, Xb, Xc, Xd, Xe, Xf, Xg, Xh, Xi, Xj, Xk, Xl, Xm, Xn, Xo, Xp, Xq, Xr, Xs, Xt, Xu, Xv, Xw, Xx, Xy, Xz, XA, XB, XD, XE, XF, XG, XH, XI, ev, XJ, upd, args1, args2, args3, args4, XK, XL, XM, extL, XN, XO, XP, XQ, XR, XT, XU, XV, XW, XX, XY, XZ, X0, X1, X2, X3, Addr.add, ↓reduceIte, Nat.reduceLT, Nat.reduceEqDiff, Nat.zero_add, Nat.reduceAdd, Option.map_some, X4, List.getElem_toArray, List.getElem_cons_zero, List.getElem_cons_succ]
       refine hK _ ?_
       clear hK K))
  refine t_done ?_
  refine t_seq ?_
  refine t_seq ?_
  refine t_region ?_
  iterate 1 (first
    | (refine t_skG rfl (by decide) rfl ?_)
    | (refine t_skU rfl (by decide) rfl ?_)
    | (first | refine t_rdG (by decide) rfl (by decide) rfl (fun K hK => ?_) | refine t_rd (by decide) (fun K hK => ?_)
       simp only [Xa, Xb, Xc, Xd, Xe, Xf, Xg, Xh, Xi, Xj, Xk, Xl, Xm, Xn, Xo, Xp, Xq, Xr, Xs, Xt, Xu, Xv, Xw, Xx, Xy, Xz, XA, XB, XD, XE, XF, XG, XH, XI, ev, XJ, upd, args1, args2, args3, args4, XK, XL, XM, extL, XN, XO, XP, XQ, XR, XT, XU, XV, XW, XX, XY, XZ, X0, X1, X2, X3, Addr.add, ↓reduceIte, Nat.reduceLT, Nat.reduceEqDiff, Nat.zero_add, Nat.reduceAdd, Option.map_some, X4, List.getElem_toArray, List.getElem_cons_zero, List.getElem_cons_succ]
       refine hK _ ?_
       clear hK K))
  refine t_val (by decide) (by rw [XI]; simp only [Xa, Xb, Xc, Xd, Xe, Xf, Xg, Xh, Xi, Xj, Xk, Xl, Xm, Xn, Xo, Xp, Xq, Xr, Xs, Xt, Xu, Xv, Xw, Xx, Xy, Xz, XA, XB, XD, XE, XF, XG, XH, XI, ev, XJ, upd, args1, args2, args3, args4, XK, XL, XM, extL, XN, XO, XP, XQ, XR, XT, XU, XV, XW, XX, XY, XZ, X0, X1, X2, X3, Addr.add, ↓reduceIte, Nat.reduceLT, Nat.reduceEqDiff, Nat.zero_add, Nat.reduceAdd, Option.map_some, X4, List.getElem_toArray, List.getElem_cons_zero, List.getElem_cons_succ, hve]; exact bin_eqlNil25 _ _ a n cp) ?_
  refine t_done ?_
  cases a with
  | none =>
    refine t_true rfl ?_
    refine t_seq ?_
    refine t_region ?_
    repeat (first
      | (refine t_skG rfl (by decide) rfl ?_)
      | (refine t_skU rfl (by decide) rfl ?_)
      | (first | refine t_rdG (by decide) rfl (by decide) rfl (fun K hK => ?_) | refine t_rd (by decide) (fun K hK => ?_)
         simp only [Xa, Xb, Xc, Xd, Xe, Xf, Xg, Xh, Xi, Xj, Xk, Xl, Xm, Xn, Xo, Xp, Xq, Xr, Xs, Xt, Xu, Xv, Xw, Xx, Xy, Xz, XA, XB, XD, XE, XF, XG, XH, XI, ev, XJ, upd, args1, args2, args3, args4, XK, XL, XM, extL, XN, XO, XP, XQ, XR, XT, XU, XV, XW, XX, XY, XZ, X0, X1, X2, X3, Addr.add, ↓reduceIte, Nat.reduceLT, Nat.reduceEqDiff, Nat.zero_add, Nat.reduceAdd, Option.map_some, X4, List.getElem_toArray, List.getElem_cons_zero, List.getElem_cons_succ]
         refine hK _ ?_
         clear hK K))
    refine t_done ?_
    refine t_ret ?_
    refine t_leave1 rfl Try.func33 Try.results33 ?_
    rw [hnil rfl] at h
    exact h O w w.heap.size _ (Rel.refl _ _ _) (Buf.nil _ _ _ _ _) (Nat.le_refl _)
  | some A =>
    refine t_false rfl ?_
    refine t_skip ?_
    refine t_seq ?_
    refine t_region ?_
    refine t_buildSlice (sz := 4) (cells := #[]) (pv := #[]) Try.underlying25 rfl (by decide) zero37 (by decide) (by simp) (fun c0 h0 => by
      have : c0 = #[] := Array.eq_empty_of_size_eq_zero (by simpa using h0)
      rw [this]; rfl) ?_
    intro m1 O1 w1 n1
    have hb1 : Buf 4 x O1 w1 m1 (.slice (some ⟨m1, 0, none⟩) 0 0) [] := ⟨by simp, .inr ⟨0, #[], 37, rfl, n1.tag, n1.obj, rfl, Nat.le_refl _, rfl⟩⟩
    iterate 1 (first
      | (refine t_skG rfl (by decide) rfl ?_)
      | (refine t_skU rfl (by decide) rfl ?_)
      | (first | refine t_rdG (by decide) rfl (by decide) rfl (fun K hK => ?_) | refine t_rd (by decide) (fun K hK => ?_)
         simp only [Xa, Xb, Xc, Xd, Xe, Xf, Xg, Xh, Xi, Xj, Xk, Xl, Xm, Xn, Xo, Xp, Xq, Xr, Xs, Xt, Xu, Xv, Xw, Xx, Xy, Xz, XA, XB, XD, XE, XF, XG, XH, XI, ev, XJ, upd, args1, args2, args3, args4, XK, XL, XM, extL, XN, XO, XP, XQ, XR, XT, XU, XV, XW, XX, XY, XZ, X0, X1, X2, X3, Addr.add, ↓reduceIte, Nat.reduceLT, Nat.reduceEqDiff, Nat.zero_add, Nat.reduceAdd, Option.map_some, X4, List.getElem_toArray, List.getElem_cons_zero, List.getElem_cons_succ]
         refine hK _ ?_
         clear hK K))
    refine t_append Try.underlying25 rfl rfl rfl (by decide) (by decide) (by decide) zero37 rfl (by decide) rfl rfl hb1 (hv.rely n1.rel) (by simp; omega) (fun b hb => cells_ok l b (by simpa using hb)) ?_
    intro Or wr m' s' Ot wt rr hmt hbuft hmm
    repeat (first
      | (refine t_skG rfl (by decide) rfl ?_)
      | (refine t_skU rfl (by decide) rfl ?_)
      | (first | refine t_rdG (by decide) rfl (by decide) rfl (fun K hK => ?_) | refine t_rd (by decide) (fun K hK => ?_)
         simp only [Xa, Xb, Xc, Xd, Xe, Xf, Xg, Xh, Xi, Xj, Xk, Xl, Xm, Xn, Xo, Xp, Xq, Xr, Xs, Xt, Xu, Xv, Xw, Xx, Xy, Xz, XA, XB, XD, XE, XF, XG, XH, XI, ev, XJ, upd, args1, args2, args3, args4, XK, XL, XM, extL, XN, XO, XP, XQ, XR, XT, XU, XV, XW, XX, XY, XZ, X0, X1, X2, X3, Addr.add, ↓reduceIte, Nat.reduceLT, Nat.reduceEqDiff, Nat.zero_add, Nat.reduceAdd, Option.map_some, X4, List.getElem_toArray, List.getElem_cons_zero, List.getElem_cons_succ]
         refine hK _ ?_
         clear hK K))
    refine t_done ?_
    refine t_ret ?_
    refine t_leave1 rfl Try.func33 Try.results33 ?_
    refine h Ot wt m' s' ((n1.rel.trans rr).mod hmt n1.ge) hbuft ?_
    rcases hmm with rfl | ⟨hmm, _⟩
    · exact n1.ge
    · exact Nat.le_trans (n1.rel.trans rr).size hmm

section
variable {x : Th} {St : Gh → Goroutine → World → Prop}
set_option maxHeartbeats 4000000 in
theorem Index_M (l : List Ent) (v : Value) {mb mF mM mB m : Nat} {floor : Int} {bottom : Bool} (O : Gh) (w : World) (c : Frame) (cs : List Frame) (hb : Buf 4 x O w mb v (l.map Ent.cells)) (hc : Clo x O w mF mM mB m floor bottom []) (hne : mb ≠ m) (hlen : l.length < 100000)
    (hno : (∀ (j : Nat) (a : Ent), l[j]? = some a → delAt floor bottom (l.take j) a = false) → ∀ O' w', Wk x [m] O w O' w' → Clo x O' w' mF mM mB m floor bottom l → Tree P x St O' (G (c.finish (.int .i64 (-1))) cs) w')
    (hyes : ∀ (i : Nat) (a : Ent), l[i]? = some a → delAt floor bottom (l.take i) a = true → (∀ (j : Nat) (a : Ent), j < i → l[j]? = some a → delAt floor bottom (l.take j) a = false) → ∀ O' w', Wk x [m] O w O' w' → Clo x O' w' mF mM mB m floor bottom (l.take (i + 1)) → Tree P x St O' (G (c.finish (.int .i64 (i : Int))) cs) w') :
    Tree P x St O (G (Frame.enter P 55 #[v, cloV mF mM mB] .normal) (c :: cs)) w := by
  rw [enter2 _ _ Try.func55 rfl Try.ntmps55 (by decide)]
  have hl : lenL v = some (.value (.int .i64 l.length)) := SlE.len (L := ldOf x O w) hb.sl
  refine t_seq ?_
  refine t_region ?_
  repeat (first
    | (refine t_skG rfl (by decide) rfl ?_)
    | (refine t_skU rfl (by decide) rfl ?_)
    | (first | refine t_rdG (by decide) rfl (by decide) rfl (fun K hK => ?_) | refine t_rd (by decide) (fun K hK => ?_)
       simp only [Xa, Xb, Xc, Xd, Xe, Xf, Xg, Xh, Xi, Xj, Xk, Xl, Xm, Xn, Xo, Xp, Xq, Xr, Xs, Xt, Xu, Xv, Xw, Xx, Xy, Xz, XA, XB, XD, XE, XF, XG, XH, XI, ev, XJ, upd, args1, args2, args3, args4, XK, XL, XM, extL, XN, XO, XP, XQ, XR, XT, XU, XV, XW, XX, XY, XZ, X0, X1, X2, X3, Addr.add, ↓reduceIte, Nat.reduceLT, Nat.reduceEqDiff, Nat.zero_add, Nat.reduceAdd, Option.map_some, X4, List.getElem_toArray, List.getElem_cons_zero, List.getElem_cons_succ]
       refine hK _ ?_
       clear hK K))
  refine t_done ?_
  refine t_seq ?_
  refine t_seq ?_
  refine t_region ?_
  repeat (first
    | (refine t_skG rfl (by decide) rfl ?_)
    | (refine t_skU rfl (by decide) rfl ?_)
    | (first | refine t_rdG (by decide) rfl (by decide) rfl (fun K hK => ?_) | refine t_rd (by decide) (fun K hK => ?_)
       simp only [Xa, Xb, Xc, Xd, Xe, Xf, Xg, Xh, Xi, Xj, Xk, Xl, Xm, Xn, Xo, Xp, Xq, Xr, Xs, Xt, Xu, Xv, Xw, Xx, Xy, Xz, XA, XB, XD, XE, XF, XG, XH, XI, ev, XJ, upd, args1, args2, args3, args4, XK, XL, XM, extL, XN, XO, XP, XQ, XR, XT, XU, XV, XW, XX, XY, XZ, X0, X1, X2, X3, Addr.add, ↓reduceIte, Nat.reduceLT, Nat.reduceEqDiff, Nat.zero_add, Nat.reduceAdd, Option.map_some, X4, List.getElem_toArray, List.getElem_cons_zero, List.getElem_cons_succ, hl]
       refine hK _ ?_
       clear hK K))
  refine t_done ?_
  refine t_block ?_
  refine t_loop ?_
  refine t_while (fun q f O' w' => Wk x [m] O w O' w' ∧ f 0 = v ∧ f 1 = cloV mF mM mB ∧ f 7 = .int .i64 (l.length : Int) ∧ ∃ j : Nat, f 8 = .int .i64 (j : Int) ∧ q = l.length - j ∧ j ≤ l.length ∧ Clo x O' w' mF mM mB m floor bottom (l.take j) ∧ ∀ (i : Nat) (a : Ent), i < j → l[i]? = some a → delAt floor bottom (l.take i) a = false)
    l.length ⟨Wk.refl _ _ _ _, rfl, rfl, rfl, 0, rfl, rfl, Nat.zero_le _, by simpa using hc, fun i a hi => by omega⟩ ?_
  rintro q f O1 w1 ⟨k1, hf0, hf1, hf7, j, hf8, hq, hj, hc1, hall⟩ ih
  have hw2 : IntKind.i64.wrap ((j : Int) + 1) = ((j + 1 : Nat) : Int) := by rw [wrap64] <;> omega
  have hv1 : SlE (ldOf x O1 w1) v l := (hb.wk k1 (by simpa using hne)).sl
  refine t_seq ?_
  refine t_region ?_
  by_cases hlt : j < l.length
  · have hd : decide ((j : Int) < (l.length : Int)) = true := decide_eq_true (by omega)
    have hej := List.getElem?_eq_getElem hlt
    generalize l[j] = a at hej
    obtain ⟨A, hA⟩ := hv1.at hej
    have iA := hA.idx
    have wA := hA.whole
    repeat (first
      | (refine t_skG rfl (by decide) rfl ?_)
      | (refine t_skU rfl (by decide) rfl ?_)
      | (first | refine t_rdG (by decide) rfl (by decide) rfl (fun K hK => ?_) | refine t_rd (by decide) (fun K hK => ?_)
         simp only [Xa, Xb, Xc, Xd, Xe, Xf, Xg, Xh, Xi, Xj, Xk, Xl, Xm, Xn, Xo, Xp, Xq, Xr, Xs, Xt, Xu, Xv, Xw, Xx, Xy, Xz, XA, XB, XD, XE, XF, XG, XH, XI, ev, XJ, upd, args1, args2, args3, args4, XK, XL, XM, extL, XN, XO, XP, XQ, XR, XT, XU, XV, XW, XX, XY, XZ, X0, X1, X2, X3, Addr.add, ↓reduceIte, Nat.reduceLT, Nat.reduceEqDiff, Nat.zero_add, Nat.reduceAdd, Option.map_some, X4, List.getElem_toArray, List.getElem_cons_zero, List.getElem_cons_succ, hf7, hf8, hd]
         refine hK _ ?_
         clear hK K))
    refine t_done ?_
    refine t_seq ?_
    refine t_true rfl ?_
    refine t_skip ?_
    refine t_seq ?_
    refine t_block ?_
    refine t_seq ?_
    refine t_region ?_
    repeat (first
      | (refine t_skG rfl (by decide) rfl ?_)
      | (refine t_skU rfl (by decide) rfl ?_)
      | (first | refine t_rdG (by decide) rfl (by decide) rfl (fun K hK => ?_) | refine t_rd (by decide) (fun K hK => ?_)
         simp only [Xa, Xb, Xc, Xd, Xe, Xf, Xg, Xh, Xi, Xj, Xk, Xl, Xm, Xn, Xo, Xp, Xq, Xr, Xs, Xt, Xu, Xv, Xw, Xx, Xy, Xz, XA, XB, XD, XE, XF, XG, XH, XI, ev, XJ, upd, args1, args2, args3, args4, XK, XL, XM, extL, XN, XO, XP, XQ, XR, XT, XU, XV, XW, XX, XY, XZ, X0, X1, X2, X3, Addr.add, ↓reduceIte, Nat.reduceLT, Nat.reduceEqDiff, Nat.zero_add, Nat.reduceAdd, Option.map_some, X4, List.getElem_toArray, List.getElem_cons_zero, List.getElem_cons_succ, hf8]
         refine hK _ ?_
         clear hK K))
    refine t_done ?_
    refine t_seq ?_
    refine t_region ?_
    iterate 5 (first
      | (refine t_skG rfl (by decide) rfl ?_)
      | (refine t_skU rfl (by decide) rfl ?_)
      | (first | refine t_rdG (by decide) rfl (by decide) rfl (fun K hK => ?_) | refine t_rd (by decide) (fun K hK => ?_)
         simp only [Xa, Xb, Xc, Xd, Xe, Xf, Xg, Xh, Xi, Xj, Xk, Xl, Xm, Xn, Xo, Xp, Xq, Xr, Xs, Xt, Xu, Xv, Xw, Xx, Xy, Xz, XA, XB, XD, XE, XF, XG, XH, XI, ev, XJ, upd, args1, args2, args3, args4, XK, XL, XM, extL, XN, XO, XP, XQ, XR, XT, XU, XV, XW, XX, XY, XZ, X0, X1, X2, X3, Addr.add, ↓reduceIte, Nat.reduceLT, Nat.reduceEqDiff, Nat.zero_add, Nat.reduceAdd, Option.map_some, X4, List.getElem_toArray, List.getElem_cons_zero, List.getElem_cons_succ, hf0, hf1, iA, wA]
         refine hK _ ?_
         clear hK K))
    refine t_callV (caps := #[.pointer (some ⟨mF, 0, none⟩), .pointer (some ⟨mM, 0, none⟩), .pointer (some ⟨mB, 0, none⟩)]) #[a.v, .pointer (some ⟨mF, 0, none⟩), .pointer (some ⟨mM, 0, none⟩), .pointer (some ⟨mB, 0, none⟩)] (by decide) (by simp only [Xa, Xb, Xc, Xd, Xe, Xf, Xg, Xh, Xi, Xj, Xk, Xl, Xm, Xn, Xo, Xp, Xq, Xr, Xs, Xt, Xu, Xv, Xw, Xx, Xy, Xz, XA, XB, XD, XE, XF, XG, XH, XI, ev, XJ, upd, args1, args2, args3, args4, XK, XL, XM, extL, XN, XO, XP, XQ, XR, XT, XU, XV, XW, XX, XY, XZ, X0, X1, X2, X3, Addr.add, ↓reduceIte, Nat.reduceLT, Nat.reduceEqDiff, Nat.zero_add, Nat.reduceAdd, Option.map_some, X4, List.getElem_toArray, List.getElem_cons_zero, List.getElem_cons_succ]; rfl) Try.func34 nm34 rfl (by simp only [List.map_toArray, List.map_cons, List.map_nil, Xa, Xb, Xc, Xd, Xe, Xf, Xg, Xh, Xi, Xj, Xk, Xl, Xm, Xn, Xo, Xp, Xq, Xr, Xs, Xt, Xu, Xv, Xw, Xx, Xy, Xz, XA, XB, XD, XE, XF, XG, XH, XI, ev, XJ, upd, args1, args2, args3, args4, XK, XL, XM, extL, XN, XO, XP, XQ, XR, XT, XU, XV, XW, XX, XY, XZ, X0, X1, X2, X3, Addr.add, ↓reduceIte, Nat.reduceLT, Nat.reduceEqDiff, Nat.zero_add, Nat.reduceAdd, Option.map_some, X4, List.getElem_toArray, List.getElem_cons_zero, List.getElem_cons_succ]; rfl) ?_
    intro c2 hret
    refine clo_M a O1 w1 c2 _ hc1 (by rw [List.length_take]; omega) fun O2 w2 k2 hc2 => hret _ O2 w2 ?_
    clear hret
    have htk : l.take j ++ [a] = l.take (j + 1) := by rw [List.take_add_one, hej]; rfl
    rw [htk] at hc2
    refine t_done ?_
    cases hdl : delAt floor bottom (l.take j) a with
    | true =>
      refine t_true rfl ?_
      refine t_seq ?_
      refine t_region ?_
      repeat (first
        | (refine t_skG rfl (by decide) rfl ?_)
        | (refine t_skU rfl (by decide) rfl ?_)
        | (first | refine t_rdG (by decide) rfl (by decide) rfl (fun K hK => ?_) | refine t_rd (by decide) (fun K hK => ?_)
           simp only [Xa, Xb, Xc, Xd, Xe, Xf, Xg, Xh, Xi, Xj, Xk, Xl, Xm, Xn, Xo, Xp, Xq, Xr, Xs, Xt, Xu, Xv, Xw, Xx, Xy, Xz, XA, XB, XD, XE, XF, XG, XH, XI, ev, XJ, upd, args1, args2, args3, args4, XK, XL, XM, extL, XN, XO, XP, XQ, XR, XT, XU, XV, XW, XX, XY, XZ, X0, X1, X2, X3, Addr.add, ↓reduceIte, Nat.reduceLT, Nat.reduceEqDiff, Nat.zero_add, Nat.reduceAdd, Option.map_some, X4, List.getElem_toArray, List.getElem_cons_zero, List.getElem_cons_succ]
           refine hK _ ?_
           clear hK K))
      refine t_done ?_
      refine t_ret ?_
      refine t_leave1 rfl Try.func55 Try.results55 ?_
      exact hyes j a hej hdl hall O2 w2 (k1.trans k2) hc2
    | false =>
      refine t_false rfl ?_
      refine t_skip ?_
      refine t_inBlock ?_
      refine t_region ?_
      repeat (first
        | (refine t_skG rfl (by decide) rfl ?_)
        | (refine t_skU rfl (by decide) rfl ?_)
        | (first | refine t_rdG (by decide) rfl (by decide) rfl (fun K hK => ?_) | refine t_rd (by decide) (fun K hK => ?_)
           simp only [Xa, Xb, Xc, Xd, Xe, Xf, Xg, Xh, Xi, Xj, Xk, Xl, Xm, Xn, Xo, Xp, Xq, Xr, Xs, Xt, Xu, Xv, Xw, Xx, Xy, Xz, XA, XB, XD, XE, XF, XG, XH, XI, ev, XJ, upd, args1, args2, args3, args4, XK, XL, XM, extL, XN, XO, XP, XQ, XR, XT, XU, XV, XW, XX, XY, XZ, X0, X1, X2, X3, Addr.add, ↓reduceIte, Nat.reduceLT, Nat.reduceEqDiff, Nat.zero_add, Nat.reduceAdd, Option.map_some, X4, List.getElem_toArray, List.getElem_cons_zero, List.getElem_cons_succ, hf8, hw2]
           refine hK _ ?_
           clear hK K))
      refine t_done ?_
      refine t_inLoop ?_
      refine ih (l.length - (j + 1)) _ O2 w2 (by omega) ⟨k1.trans k2, hf0, hf1, hf7, j + 1, rfl, rfl, by omega, hc2, fun i b hi hib => ?_⟩
      by_cases e : i = j
      · subst e; rw [hej] at hib; cases hib; exact hdl
      · exact hall i b (by omega) hib
  · have hd : decide ((j : Int) < (l.length : Int)) = false := decide_eq_false (by omega)
    repeat (first
      | (refine t_skG rfl (by decide) rfl ?_)
      | (refine t_skU rfl (by decide) rfl ?_)
      | (first | refine t_rdG (by decide) rfl (by decide) rfl (fun K hK => ?_) | refine t_rd (by decide) (fun K hK => ?_)
         simp only [Xa, Xb, Xc, Xd, Xe, Xf, Xg, Xh, Xi, Xj, Xk, Xl, Xm, Xn, Xo, Xp, Xq, Xr, Xs, Xt, Xu, Xv, Xw, Xx, Xy, Xz, XA, XB, XD, XE, XF, XG, XH, XI, ev, XJ, upd, args1, args2, args3, args4, XK, XL, XM, extL, XN, XO, XP, XQ, XR, XT, XU, XV, XW, XX, XY, XZ, X0, X1, X2, X3, Addr.add, ↓reduceIte, Nat.reduceLT, Nat.reduceEqDiff, Nat.zero_add, Nat.reduceAdd, Option.map_some, X4, List.getElem_toArray, List.getElem_cons_zero, List.getElem_cons_succ, hf7, hf8, hd]
         refine hK _ ?_
         clear hK K))
    refine t_done ?_
    refine t_seq ?_
    refine t_false rfl ?_
    refine t_exit rfl ?_
    refine t_seq ?_
    refine t_region ?_
    repeat (first
      | (refine t_skG rfl (by decide) rfl ?_)
      | (refine t_skU rfl (by decide) rfl ?_)
      | (first | refine t_rdG (by decide) rfl (by decide) rfl (fun K hK => ?_) | refine t_rd (by decide) (fun K hK => ?_)
         simp only [Xa, Xb, Xc, Xd, Xe, Xf, Xg, Xh, Xi, Xj, Xk, Xl, Xm, Xn, Xo, Xp, Xq, Xr, Xs, Xt, Xu, Xv, Xw, Xx, Xy, Xz, XA, XB, XD, XE, XF, XG, XH, XI, ev, XJ, upd, args1, args2, args3, args4, XK, XL, XM, extL, XN, XO, XP, XQ, XR, XT, XU, XV, XW, XX, XY, XZ, X0, X1, X2, X3, Addr.add, ↓reduceIte, Nat.reduceLT, Nat.reduceEqDiff, Nat.zero_add, Nat.reduceAdd, Option.map_some, X4, List.getElem_toArray, List.getElem_cons_zero, List.getElem_cons_succ]
         refine hK _ ?_
         clear hK K))
    refine t_done ?_
    refine t_ret ?_
    refine t_leave1 rfl Try.func55 Try.results55 ?_
    rw [List.take_of_length_le (by omega)] at hc1
    exact hno (fun i a hi => hall i a (by have := (List.getElem?_eq_some_iff.1 hi).1; omega) hi) O1 w1 k1 hc1
end
end Go.Proofs.Ytdajdembeacefaa.M
set_option linter.unusedSimpArgs false
set_option linter.unusedVariables false
namespace Go.Proofs.Ytdajdembeacefaa.M
open Go.Conc

theorem nm32 : ((Try.f32).name == "runtime.NumGoroutine") = false := by kernel_rfl
theorem nm33 : ((Try.f33).name == "runtime.NumGoroutine") = false := by kernel_rfl
def keepF (floor : Int) (bottom : Bool) (l : List Ent) (j : Nat) (a : Ent) : List Ent := if delAt floor bottom (l.take j) a then [] else [a]
def compL (l : List Ent) (floor : Int) (bottom : Bool) : List Ent := sumUp l (keepF floor bottom l) l.length
theorem keepF_len (floor : Int) (bottom : Bool) (l : List Ent) (j : Nat) (a : Ent) : (keepF floor bottom l j a).length ≤ 1 := by
  unfold keepF; cases delAt floor bottom (l.take j) a <;> simp
theorem sumUp_kept {floor : Int} {bottom : Bool} {l : List Ent} : ∀ {i : Nat}, i ≤ l.length → (∀ (j : Nat) (a : Ent), j < i → l[j]? = some a → delAt floor bottom (l.take j) a = false) → sumUp l (keepF floor bottom l) i = l.take i
  | 0, _, _ => rfl
  | i + 1, hi, h => by
    have ha := List.getElem?_eq_getElem (show i < l.length by omega)
    rw [sumUp_step ha, sumUp_kept (by omega) fun j a hj => h j a (by omega), List.take_add_one, ha]
    unfold keepF
    rw [h i _ (by omega) ha]; rfl
theorem take_set {α : Type} {L : List α} {n : Nat} {a : α} (h : n < L.length) : (L.set n a).take (n + 1) = L.take n ++ [a] := by
  rw [List.take_add_one, List.take_set_of_le (Nat.le_refl _), List.getElem?_set_self h]; rfl

section
variable {x : Th} {St : Gh → Goroutine → World → Prop}
set_option maxHeartbeats 4000000 in
theorem Delete_M (l : List Ent) (v : Value) {mb mF mM mB m : Nat} {floor : Int} {bottom : Bool} (O : Gh) (w : World) (c : Frame) (cs : List Frame) (hb : Buf 4 x O w mb v (l.map Ent.cells)) (hc : Clo x O w mF mM mB m floor bottom [])
    (n0 : mb ≠ m) (n1 : mF ≠ mb) (n2 : mM ≠ mb) (n3 : mB ≠ mb) (hlen : l.length < 100000)
    (h : ∀ O' w' s, Wk x [mb, m] O w O' w' → Buf 4 x O' w' mb s ((compL l floor bottom).map Ent.cells) → Tree P x St O' (G (c.finish s) cs) w') :
    Tree P x St O (G (Frame.enter P 32 #[v, cloV mF mM mB] .normal) (c :: cs)) w := by
  rw [enter2 _ _ Try.func32 rfl Try.ntmps32 (by decide)]
  have q1 : ((-1 : Int) == -1) = true := by decide
  refine t_seq ?_
  refine t_region ?_
  repeat (first
    | (refine t_skG rfl (by decide) rfl ?_)
    | (refine t_skU rfl (by decide) rfl ?_)
    | (first | refine t_rdG (by decide) rfl (by decide) rfl (fun K hK => ?_) | refine t_rd (by decide) (fun K hK => ?_)
       simp only [Xa, Xb, Xc, Xd, Xe, Xf, Xg, Xh, Xi, Xj, Xk, Xl, Xm, Xn, Xo, Xp, Xq, Xr, Xs, Xt, Xu, Xv, Xw, Xx, Xy, Xz, XA, XB, XD, XE, XF, XG, XH, XI, ev, XJ, upd, args1, args2, args3, args4, XK, XL, XM, extL, XN, XO, XP, XQ, XR, XT, XU, XV, XW, XX, XY, XZ, X0, X1, X2, X3, Addr.add, ↓reduceIte, Nat.reduceLT, Nat.reduceEqDiff, Nat.zero_add, Nat.reduceAdd, Option.map_some, X4, List.getElem_toArray, List.getElem_cons_zero, List.getElem_cons_succ]
       refine hK _ ?_
       clear hK K))
  refine t_done ?_
  refine t_seq ?_
  refine t_region ?_
  iterate 2 (first
    | (refine t_skG rfl (by decide) rfl ?_)
    | (refine t_skU rfl (by decide) rfl ?_)
    | (first | refine t_rdG (by decide) rfl (by decide) rfl (fun K hK => ?_) | refine t_rd (by decide) (fun K hK => ?_)
       simp only [Xa, Xb, Xc, Xd, Xe, Xf, Xg, Xh, Xi, Xj, Xk, Xl, Xm, Xn, Xo, Xp, Xq, Xr, Xs, Xt, Xu, Xv, Xw, Xx, Xy, Xz, XA, XB, XD, XE, XF, XG, XH, XI, ev, XJ, upd, args1, args2, args3, args4, XK, XL, XM, extL, XN, XO, XP, XQ, XR, XT, XU, XV, XW, XX, XY, XZ, X0, X1, X2, X3, Addr.add, ↓reduceIte, Nat.reduceLT, Nat.reduceEqDiff, Nat.zero_add, Nat.reduceAdd, Option.map_some, X4, List.getElem_toArray, List.getElem_cons_zero, List.getElem_cons_succ]
       refine hK _ ?_
       clear hK K))
  refine t_callA #[v, cloV mF mM mB] (by decide) Try.func55 nm55 rfl (by simp only [List.map_toArray, List.map_cons, List.map_nil, Xa, Xb, Xc, Xd, Xe, Xf, Xg, Xh, Xi, Xj, Xk, Xl, Xm, Xn, Xo, Xp, Xq, Xr, Xs, Xt, Xu, Xv, Xw, Xx, Xy, Xz, XA, XB, XD, XE, XF, XG, XH, XI, ev, XJ, upd, args1, args2, args3, args4, XK, XL, XM, extL, XN, XO, XP, XQ, XR, XT, XU, XV, XW, XX, XY, XZ, X0, X1, X2, X3, Addr.add, ↓reduceIte, Nat.reduceLT, Nat.reduceEqDiff, Nat.zero_add, Nat.reduceAdd, Option.map_some, X4, List.getElem_toArray, List.getElem_cons_zero, List.getElem_cons_succ]) ?_
  intro c2 hret
  refine Index_M l v O w c2 _ hb hc n0 hlen (fun hall O1 w1 k1 hc1 => hret _ O1 w1 ?_) (fun i a hi hdl hall O1 w1 k1 hc1 => hret _ O1 w1 ?_)
  · clear hret
    repeat (first
      | (refine t_skG rfl (by decide) rfl ?_)
      | (refine t_skU rfl (by decide) rfl ?_)
      | (first | refine t_rdG (by decide) rfl (by decide) rfl (fun K hK => ?_) | refine t_rd (by decide) (fun K hK => ?_)
         simp only [Xa, Xb, Xc, Xd, Xe, Xf, Xg, Xh, Xi, Xj, Xk, Xl, Xm, Xn, Xo, Xp, Xq, Xr, Xs, Xt, Xu, Xv, Xw, Xx, Xy, Xz, XA, XB, XD, XE, XF, XG, XH, XI, ev, XJ, upd, args1, args2, args3, args4, XK, XL, XM, extL, XN, XO, XP, XQ, XR, XT, XU, XV, XW, XX, XY, XZ, X0, X1, X2, X3, Addr.add, ↓reduceIte, Nat.reduceLT, Nat.reduceEqDiff, Nat.zero_add, Nat.reduceAdd, Option.map_some, X4, List.getElem_toArray, List.getElem_cons_zero, List.getElem_cons_succ]
         refine hK _ ?_
         clear hK K))
    refine t_done ?_
    refine t_seq ?_
    refine t_seq ?_
    refine t_region ?_
    repeat (first
      | (refine t_skG rfl (by decide) rfl ?_)
      | (refine t_skU rfl (by decide) rfl ?_)
      | (first | refine t_rdG (by decide) rfl (by decide) rfl (fun K hK => ?_) | refine t_rd (by decide) (fun K hK => ?_)
         simp only [Xa, Xb, Xc, Xd, Xe, Xf, Xg, Xh, Xi, Xj, Xk, Xl, Xm, Xn, Xo, Xp, Xq, Xr, Xs, Xt, Xu, Xv, Xw, Xx, Xy, Xz, XA, XB, XD, XE, XF, XG, XH, XI, ev, XJ, upd, args1, args2, args3, args4, XK, XL, XM, extL, XN, XO, XP, XQ, XR, XT, XU, XV, XW, XX, XY, XZ, X0, X1, X2, X3, Addr.add, ↓reduceIte, Nat.reduceLT, Nat.reduceEqDiff, Nat.zero_add, Nat.reduceAdd, Option.map_some, X4, List.getElem_toArray, List.getElem_cons_zero, List.getElem_cons_succ, q1]
         refine hK _ ?_
         clear hK K))
    refine t_done ?_
    refine t_true rfl ?_
    refine t_seq ?_
    refine t_region ?_
    repeat (first
      | (refine t_skG rfl (by decide) rfl ?_)
      | (refine t_skU rfl (by decide) rfl ?_)
      | (first | refine t_rdG (by decide) rfl (by decide) rfl (fun K hK => ?_) | refine t_rd (by decide) (fun K hK => ?_)
         simp only [Xa, Xb, Xc, Xd, Xe, Xf, Xg, Xh, Xi, Xj, Xk, Xl, Xm, Xn, Xo, Xp, Xq, Xr, Xs, Xt, Xu, Xv, Xw, Xx, Xy, Xz, XA, XB, XD, XE, XF, XG, XH, XI, ev, XJ, upd, args1, args2, args3, args4, XK, XL, XM, extL, XN, XO, XP, XQ, XR, XT, XU, XV, XW, XX, XY, XZ, X0, X1, X2, X3, Addr.add, ↓reduceIte, Nat.reduceLT, Nat.reduceEqDiff, Nat.zero_add, Nat.reduceAdd, Option.map_some, X4, List.getElem_toArray, List.getElem_cons_zero, List.getElem_cons_succ]
         refine hK _ ?_
         clear hK K))
    refine t_done ?_
    refine t_ret ?_
    refine t_leave1 rfl Try.func32 Try.results32 ?_
    refine h O1 w1 v (k1.mono (by simp)) ?_
    unfold compL
    rw [sumUp_kept (Nat.le_refl _) fun j a _ ha => hall j a ha, List.take_of_length_le (Nat.le_refl _)]
    exact hb.wk k1 (by simpa using n0)
  · clear hret
    have hil := (List.getElem?_eq_some_iff.1 hi).1
    obtain ⟨cap, _, _, hve, _, _, _, hcap, _⟩ := hb.blk (by intro h0; have := congrArg List.length h0; simp at this; subst this; simp at hil)
    rw [List.length_map] at hve hcap
    have hl : lenL v = some (.value (.int .i64 l.length)) := SlE.len (L := ldOf x O w) hb.sl
    have q2 : ((i : Int) == -1) = false := by
      rw [beq_eq_false_iff_ne]; omega
    have hw3 : IntKind.i64.wrap ((i : Int) + 1) = ((i + 1 : Nat) : Int) := by rw [wrap64] <;> omega
    have hidx : ∀ n : Nat, n < l.length → idxL 4 v (.int .i64 (n : Int)) = some (.value (.pointer (some ⟨mb, n * 4, none⟩))) := fun n hn => by
      rw [hve, idxL_some 4 _ _ _ n _ hn, add_none, Nat.zero_add]
    repeat (first
      | (refine t_skG rfl (by decide) rfl ?_)
      | (refine t_skU rfl (by decide) rfl ?_)
      | (first | refine t_rdG (by decide) rfl (by decide) rfl (fun K hK => ?_) | refine t_rd (by decide) (fun K hK => ?_)
         simp only [Xa, Xb, Xc, Xd, Xe, Xf, Xg, Xh, Xi, Xj, Xk, Xl, Xm, Xn, Xo, Xp, Xq, Xr, Xs, Xt, Xu, Xv, Xw, Xx, Xy, Xz, XA, XB, XD, XE, XF, XG, XH, XI, ev, XJ, upd, args1, args2, args3, args4, XK, XL, XM, extL, XN, XO, XP, XQ, XR, XT, XU, XV, XW, XX, XY, XZ, X0, X1, X2, X3, Addr.add, ↓reduceIte, Nat.reduceLT, Nat.reduceEqDiff, Nat.zero_add, Nat.reduceAdd, Option.map_some, X4, List.getElem_toArray, List.getElem_cons_zero, List.getElem_cons_succ]
         refine hK _ ?_
         clear hK K))
    refine t_done ?_
    refine t_seq ?_
    refine t_seq ?_
    refine t_region ?_
    repeat (first
      | (refine t_skG rfl (by decide) rfl ?_)
      | (refine t_skU rfl (by decide) rfl ?_)
      | (first | refine t_rdG (by decide) rfl (by decide) rfl (fun K hK => ?_) | refine t_rd (by decide) (fun K hK => ?_)
         simp only [Xa, Xb, Xc, Xd, Xe, Xf, Xg, Xh, Xi, Xj, Xk, Xl, Xm, Xn, Xo, Xp, Xq, Xr, Xs, Xt, Xu, Xv, Xw, Xx, Xy, Xz, XA, XB, XD, XE, XF, XG, XH, XI, ev, XJ, upd, args1, args2, args3, args4, XK, XL, XM, extL, XN, XO, XP, XQ, XR, XT, XU, XV, XW, XX, XY, XZ, X0, X1, X2, X3, Addr.add, ↓reduceIte, Nat.reduceLT, Nat.reduceEqDiff, Nat.zero_add, Nat.reduceAdd, Option.map_some, X4, List.getElem_toArray, List.getElem_cons_zero, List.getElem_cons_succ, q2]
         refine hK _ ?_
         clear hK K))
    refine t_done ?_
    refine t_false rfl ?_
    refine t_skip ?_
    refine t_seq ?_
    refine t_seq ?_
    refine t_region ?_
    repeat (first
      | (refine t_skG rfl (by decide) rfl ?_)
      | (refine t_skU rfl (by decide) rfl ?_)
      | (first | refine t_rdG (by decide) rfl (by decide) rfl (fun K hK => ?_) | refine t_rd (by decide) (fun K hK => ?_)
         simp only [Xa, Xb, Xc, Xd, Xe, Xf, Xg, Xh, Xi, Xj, Xk, Xl, Xm, Xn, Xo, Xp, Xq, Xr, Xs, Xt, Xu, Xv, Xw, Xx, Xy, Xz, XA, XB, XD, XE, XF, XG, XH, XI, ev, XJ, upd, args1, args2, args3, args4, XK, XL, XM, extL, XN, XO, XP, XQ, XR, XT, XU, XV, XW, XX, XY, XZ, X0, X1, X2, X3, Addr.add, ↓reduceIte, Nat.reduceLT, Nat.reduceEqDiff, Nat.zero_add, Nat.reduceAdd, Option.map_some, X4, List.getElem_toArray, List.getElem_cons_zero, List.getElem_cons_succ, hw3]
         refine hK _ ?_
         clear hK K))
    refine t_done ?_
    refine t_block ?_
    refine t_loop ?_
    refine t_while (fun q f O' w' => Wk x [mb, m] O w O' w' ∧ f 0 = v ∧ f 1 = cloV mF mM mB ∧ ∃ (n j : Nat) (L : List Ent), f 5 = .int .i64 (n : Int) ∧ f 6 = .int .i64 (j : Int) ∧ q = l.length - j ∧ n < j ∧ j ≤ l.length ∧ Clo x O' w' mF mM mB m floor bottom (l.take j) ∧
        L.length = l.length ∧ L.take n = sumUp l (keepF floor bottom l) j ∧ L.drop j = l.drop j ∧ Buf 4 x O' w' mb v (L.map Ent.cells))
      (l.length - (i + 1)) ⟨k1.mono (by simp), rfl, rfl, i, i + 1, l, rfl, rfl, rfl, Nat.lt_succ_self _, by omega, hc1, rfl, ?_, rfl, hb.wk k1 (by simpa using n0)⟩ ?_
    · rw [sumUp_step hi, sumUp_kept (by omega) hall]
      unfold keepF; rw [hdl]; simp
    clear hc1 k1
    rintro q f O1 w1 ⟨k1, hf0, hf1, n, j, L, hf5, hf6, hq, hnj, hj, hc1, hLl, hLt, hLd, hb1⟩ ih
    have hw2 : IntKind.i64.wrap ((j : Int) + 1) = ((j + 1 : Nat) : Int) := by rw [wrap64] <;> omega
    have hw1 : IntKind.i64.wrap ((n : Int) + 1) = ((n + 1 : Nat) : Int) := by rw [wrap64] <;> omega
    refine t_seq ?_
    refine t_seq ?_
    refine t_region ?_
    by_cases hlt : j < l.length
    · have hd : decide ((j : Int) < (l.length : Int)) = true := decide_eq_true (by omega)
      have hej := List.getElem?_eq_getElem hlt
      generalize l[j] = a at hej
      have hLj : L[j]? = some a := by
        have h1 : (L.drop j)[0]? = (l.drop j)[0]? := by rw [hLd]
        rw [List.getElem?_drop, List.getElem?_drop] at h1
        simpa [hej] using h1
      have hLs : SlE (ldOf x O1 w1) v L := hb1.sl
      obtain ⟨A, hA⟩ := hLs.at hLj
      have iA := hA.idx
      have wA := hA.whole
      repeat (first
        | (refine t_skG rfl (by decide) rfl ?_)
        | (refine t_skU rfl (by decide) rfl ?_)
        | (first | refine t_rdG (by decide) rfl (by decide) rfl (fun K hK => ?_) | refine t_rd (by decide) (fun K hK => ?_)
           simp only [Xa, Xb, Xc, Xd, Xe, Xf, Xg, Xh, Xi, Xj, Xk, Xl, Xm, Xn, Xo, Xp, Xq, Xr, Xs, Xt, Xu, Xv, Xw, Xx, Xy, Xz, XA, XB, XD, XE, XF, XG, XH, XI, ev, XJ, upd, args1, args2, args3, args4, XK, XL, XM, extL, XN, XO, XP, XQ, XR, XT, XU, XV, XW, XX, XY, XZ, X0, X1, X2, X3, Addr.add, ↓reduceIte, Nat.reduceLT, Nat.reduceEqDiff, Nat.zero_add, Nat.reduceAdd, Option.map_some, X4, List.getElem_toArray, List.getElem_cons_zero, List.getElem_cons_succ, hf0, hf6, hl, hd]
           refine hK _ ?_
           clear hK K))
      refine t_done ?_
      refine t_true rfl ?_
      refine t_skip ?_
      refine t_seq ?_
      refine t_block ?_
      refine t_seq ?_
      refine t_region ?_
      iterate 4 (first
        | (refine t_skG rfl (by decide) rfl ?_)
        | (refine t_skU rfl (by decide) rfl ?_)
        | (first | refine t_rdG (by decide) rfl (by decide) rfl (fun K hK => ?_) | refine t_rd (by decide) (fun K hK => ?_)
           simp only [Xa, Xb, Xc, Xd, Xe, Xf, Xg, Xh, Xi, Xj, Xk, Xl, Xm, Xn, Xo, Xp, Xq, Xr, Xs, Xt, Xu, Xv, Xw, Xx, Xy, Xz, XA, XB, XD, XE, XF, XG, XH, XI, ev, XJ, upd, args1, args2, args3, args4, XK, XL, XM, extL, XN, XO, XP, XQ, XR, XT, XU, XV, XW, XX, XY, XZ, X0, X1, X2, X3, Addr.add, ↓reduceIte, Nat.reduceLT, Nat.reduceEqDiff, Nat.zero_add, Nat.reduceAdd, Option.map_some, X4, List.getElem_toArray, List.getElem_cons_zero, List.getElem_cons_succ, hf0, hf6, iA, wA]
           refine hK _ ?_
           clear hK K))
      refine t_allocE (by decide) ?_
      intro m7 O2 w2 r2 ge2 v2
      refine t_storeE (q := a) (by decide) (by simp only [Xa, Xb, Xc, Xd, Xe, Xf, Xg, Xh, Xi, Xj, Xk, Xl, Xm, Xn, Xo, Xp, Xq, Xr, Xs, Xt, Xu, Xv, Xw, Xx, Xy, Xz, XA, XB, XD, XE, XF, XG, XH, XI, ev, XJ, upd, args1, args2, args3, args4, XK, XL, XM, extL, XN, XO, XP, XQ, XR, XT, XU, XV, XW, XX, XY, XZ, X0, X1, X2, X3, Addr.add, ↓reduceIte, Nat.reduceLT, Nat.reduceEqDiff, Nat.zero_add, Nat.reduceAdd, Option.map_some, X4, List.getElem_toArray, List.getElem_cons_zero, List.getElem_cons_succ]) (by simp only [Xa, Xb, Xc, Xd, Xe, Xf, Xg, Xh, Xi, Xj, Xk, Xl, Xm, Xn, Xo, Xp, Xq, Xr, Xs, Xt, Xu, Xv, Xw, Xx, Xy, Xz, XA, XB, XD, XE, XF, XG, XH, XI, ev, XJ, upd, args1, args2, args3, args4, XK, XL, XM, extL, XN, XO, XP, XQ, XR, XT, XU, XV, XW, XX, XY, XZ, X0, X1, X2, X3, Addr.add, ↓reduceIte, Nat.reduceLT, Nat.reduceEqDiff, Nat.zero_add, Nat.reduceAdd, Option.map_some, X4, List.getElem_toArray, List.getElem_cons_zero, List.getElem_cons_succ]) v2 ?_
      intro O3 w3 w4 r3 md3 v4
      refine t_done ?_
      have r4 : Rel x O1 w1 O3 w4 := (r2.trans r3).mod md3 (by omega)
      have lw := v4.lw
      have hc4 := hc1.rely r4
      have hb4 := hb1.rely r4
      refine t_seq ?_
      refine t_region ?_
      iterate 2 (first
        | (refine t_skG rfl (by decide) rfl ?_)
        | (refine t_skU rfl (by decide) rfl ?_)
        | (first | refine t_rdG (by decide) rfl (by decide) rfl (fun K hK => ?_) | refine t_rd (by decide) (fun K hK => ?_)
           simp only [Xa, Xb, Xc, Xd, Xe, Xf, Xg, Xh, Xi, Xj, Xk, Xl, Xm, Xn, Xo, Xp, Xq, Xr, Xs, Xt, Xu, Xv, Xw, Xx, Xy, Xz, XA, XB, XD, XE, XF, XG, XH, XI, ev, XJ, upd, args1, args2, args3, args4, XK, XL, XM, extL, XN, XO, XP, XQ, XR, XT, XU, XV, XW, XX, XY, XZ, X0, X1, X2, X3, Addr.add, ↓reduceIte, Nat.reduceLT, Nat.reduceEqDiff, Nat.zero_add, Nat.reduceAdd, Option.map_some, X4, List.getElem_toArray, List.getElem_cons_zero, List.getElem_cons_succ, hf1, lw]
           refine hK _ ?_
           clear hK K))
      refine t_callV (caps := #[.pointer (some ⟨mF, 0, none⟩), .pointer (some ⟨mM, 0, none⟩), .pointer (some ⟨mB, 0, none⟩)]) #[a.v, .pointer (some ⟨mF, 0, none⟩), .pointer (some ⟨mM, 0, none⟩), .pointer (some ⟨mB, 0, none⟩)] (by decide) (by simp only [Xa, Xb, Xc, Xd, Xe, Xf, Xg, Xh, Xi, Xj, Xk, Xl, Xm, Xn, Xo, Xp, Xq, Xr, Xs, Xt, Xu, Xv, Xw, Xx, Xy, Xz, XA, XB, XD, XE, XF, XG, XH, XI, ev, XJ, upd, args1, args2, args3, args4, XK, XL, XM, extL, XN, XO, XP, XQ, XR, XT, XU, XV, XW, XX, XY, XZ, X0, X1, X2, X3, Addr.add, ↓reduceIte, Nat.reduceLT, Nat.reduceEqDiff, Nat.zero_add, Nat.reduceAdd, Option.map_some, X4, List.getElem_toArray, List.getElem_cons_zero, List.getElem_cons_succ]; rfl) Try.func34 nm34 rfl (by simp only [List.map_toArray, List.map_cons, List.map_nil, Xa, Xb, Xc, Xd, Xe, Xf, Xg, Xh, Xi, Xj, Xk, Xl, Xm, Xn, Xo, Xp, Xq, Xr, Xs, Xt, Xu, Xv, Xw, Xx, Xy, Xz, XA, XB, XD, XE, XF, XG, XH, XI, ev, XJ, upd, args1, args2, args3, args4, XK, XL, XM, extL, XN, XO, XP, XQ, XR, XT, XU, XV, XW, XX, XY, XZ, X0, X1, X2, X3, Addr.add, ↓reduceIte, Nat.reduceLT, Nat.reduceEqDiff, Nat.zero_add, Nat.reduceAdd, Option.map_some, X4, List.getElem_toArray, List.getElem_cons_zero, List.getElem_cons_succ]; rfl) ?_
      intro c3 hret
      refine clo_M a O3 w4 c3 _ hc4 (by rw [List.length_take]; omega) fun O5 w5 k5 hc5 => hret _ O5 w5 ?_
      clear hret
      have htk : l.take j ++ [a] = l.take (j + 1) := by rw [List.take_add_one, hej]; rfl
      rw [htk] at hc5
      have hb5 := hb4.wk k5 (by simpa using n0)
      have hml := hb1.wk (Wk.refl x [] O1 w1) (by simp)
      have v5 : VarE x O5 w5 m7 a := by
        have hm7 : m7 ≠ m := by
          obtain ⟨_, es, cl, h2, _⟩ := hc1.map.choose_spec.1
          have := (Array.getElem?_eq_some_iff.1 h2).1
          omega
        exact ⟨(Own1.wk ⟨v4.1, v4.2⟩ k5 (by simpa using hm7)).1, (Own1.wk ⟨v4.1, v4.2⟩ k5 (by simpa using hm7)).2⟩
      have k15 : Wk x [mb, m] O1 w1 O5 w5 := (Wk.ofRel r4).trans (k5.mono (by simp))
      have k05 := k1.trans k15
      have hstep := sumUp_step (F := keepF floor bottom l) hej
      cases hdl : delAt floor bottom (l.take j) a with
      | true =>
        have hkf : keepF floor bottom l j a = [] := by unfold keepF; rw [hdl]; rfl
        rw [hkf, List.append_nil] at hstep
        repeat (first
          | (refine t_skG rfl (by decide) rfl ?_)
          | (refine t_skU rfl (by decide) rfl ?_)
          | (first | refine t_rdG (by decide) rfl (by decide) rfl (fun K hK => ?_) | refine t_rd (by decide) (fun K hK => ?_)
             simp only [Xa, Xb, Xc, Xd, Xe, Xf, Xg, Xh, Xi, Xj, Xk, Xl, Xm, Xn, Xo, Xp, Xq, Xr, Xs, Xt, Xu, Xv, Xw, Xx, Xy, Xz, XA, XB, XD, XE, XF, XG, XH, XI, ev, XJ, upd, args1, args2, args3, args4, XK, XL, XM, extL, XN, XO, XP, XQ, XR, XT, XU, XV, XW, XX, XY, XZ, X0, X1, X2, X3, Addr.add, ↓reduceIte, Nat.reduceLT, Nat.reduceEqDiff, Nat.zero_add, Nat.reduceAdd, Option.map_some, X4, List.getElem_toArray, List.getElem_cons_zero, List.getElem_cons_succ]
             refine hK _ ?_
             clear hK K))
        refine t_done ?_
        refine t_false rfl ?_
        refine t_skip ?_
        refine t_inBlock ?_
        refine t_region ?_
        repeat (first
          | (refine t_skG rfl (by decide) rfl ?_)
          | (refine t_skU rfl (by decide) rfl ?_)
          | (first | refine t_rdG (by decide) rfl (by decide) rfl (fun K hK => ?_) | refine t_rd (by decide) (fun K hK => ?_)
             simp only [Xa, Xb, Xc, Xd, Xe, Xf, Xg, Xh, Xi, Xj, Xk, Xl, Xm, Xn, Xo, Xp, Xq, Xr, Xs, Xt, Xu, Xv, Xw, Xx, Xy, Xz, XA, XB, XD, XE, XF, XG, XH, XI, ev, XJ, upd, args1, args2, args3, args4, XK, XL, XM, extL, XN, XO, XP, XQ, XR, XT, XU, XV, XW, XX, XY, XZ, X0, X1, X2, X3, Addr.add, ↓reduceIte, Nat.reduceLT, Nat.reduceEqDiff, Nat.zero_add, Nat.reduceAdd, Option.map_some, X4, List.getElem_toArray, List.getElem_cons_zero, List.getElem_cons_succ, hf6, hw2]
             refine hK _ ?_
             clear hK K))
        refine t_done ?_
        refine t_inLoop ?_
        exact ih (l.length - (j + 1)) _ O5 w5 (by omega) ⟨k05, hf0, hf1, n, j + 1, L, hf5, rfl, rfl, by omega, by omega, hc5, hLl, by rw [hstep, hLt], by rw [← List.drop_drop, hLd, List.drop_drop], hb5⟩
      | false =>
        have hkf : keepF floor bottom l j a = [a] := by unfold keepF; rw [hdl]; rfl
        rw [hkf] at hstep
        have iN := hidx n (by omega)
        have lw5 := v5.lw
        repeat (first
          | (refine t_skG rfl (by decide) rfl ?_)
          | (refine t_skU rfl (by decide) rfl ?_)
          | (first | refine t_rdG (by decide) rfl (by decide) rfl (fun K hK => ?_) | refine t_rd (by decide) (fun K hK => ?_)
             simp only [Xa, Xb, Xc, Xd, Xe, Xf, Xg, Xh, Xi, Xj, Xk, Xl, Xm, Xn, Xo, Xp, Xq, Xr, Xs, Xt, Xu, Xv, Xw, Xx, Xy, Xz, XA, XB, XD, XE, XF, XG, XH, XI, ev, XJ, upd, args1, args2, args3, args4, XK, XL, XM, extL, XN, XO, XP, XQ, XR, XT, XU, XV, XW, XX, XY, XZ, X0, X1, X2, X3, Addr.add, ↓reduceIte, Nat.reduceLT, Nat.reduceEqDiff, Nat.zero_add, Nat.reduceAdd, Option.map_some, X4, List.getElem_toArray, List.getElem_cons_zero, List.getElem_cons_succ]
             refine hK _ ?_
             clear hK K))
        refine t_done ?_
        refine t_true rfl ?_
        refine t_seq ?_
        refine t_region ?_
        iterate 4 (first
          | (refine t_skG rfl (by decide) rfl ?_)
          | (refine t_skU rfl (by decide) rfl ?_)
          | (first | refine t_rdG (by decide) rfl (by decide) rfl (fun K hK => ?_) | refine t_rd (by decide) (fun K hK => ?_)
             simp only [Xa, Xb, Xc, Xd, Xe, Xf, Xg, Xh, Xi, Xj, Xk, Xl, Xm, Xn, Xo, Xp, Xq, Xr, Xs, Xt, Xu, Xv, Xw, Xx, Xy, Xz, XA, XB, XD, XE, XF, XG, XH, XI, ev, XJ, upd, args1, args2, args3, args4, XK, XL, XM, extL, XN, XO, XP, XQ, XR, XT, XU, XV, XW, XX, XY, XZ, X0, X1, X2, X3, Addr.add, ↓reduceIte, Nat.reduceLT, Nat.reduceEqDiff, Nat.zero_add, Nat.reduceAdd, Option.map_some, X4, List.getElem_toArray, List.getElem_cons_zero, List.getElem_cons_succ, hf0, hf5, lw5, iN]
             refine hK _ ?_
             clear hK K))
        refine t_putE (q := a) (L := L) (j := n) (by decide) hb5 (by omega) (by simp only [Xa, Xb, Xc, Xd, Xe, Xf, Xg, Xh, Xi, Xj, Xk, Xl, Xm, Xn, Xo, Xp, Xq, Xr, Xs, Xt, Xu, Xv, Xw, Xx, Xy, Xz, XA, XB, XD, XE, XF, XG, XH, XI, ev, XJ, upd, args1, args2, args3, args4, XK, XL, XM, extL, XN, XO, XP, XQ, XR, XT, XU, XV, XW, XX, XY, XZ, X0, X1, X2, X3, Addr.add, ↓reduceIte, Nat.reduceLT, Nat.reduceEqDiff, Nat.zero_add, Nat.reduceAdd, Option.map_some, X4, List.getElem_toArray, List.getElem_cons_zero, List.getElem_cons_succ]) (by simp only [Xa, Xb, Xc, Xd, Xe, Xf, Xg, Xh, Xi, Xj, Xk, Xl, Xm, Xn, Xo, Xp, Xq, Xr, Xs, Xt, Xu, Xv, Xw, Xx, Xy, Xz, XA, XB, XD, XE, XF, XG, XH, XI, ev, XJ, upd, args1, args2, args3, args4, XK, XL, XM, extL, XN, XO, XP, XQ, XR, XT, XU, XV, XW, XX, XY, XZ, X0, X1, X2, X3, Addr.add, ↓reduceIte, Nat.reduceLT, Nat.reduceEqDiff, Nat.zero_add, Nat.reduceAdd, Option.map_some, X4, List.getElem_toArray, List.getElem_cons_zero, List.getElem_cons_succ]) ?_
        intro O6 w6 w7 r6 md7 hb7
        refine t_done ?_
        refine t_region ?_
        repeat (first
          | (refine t_skG rfl (by decide) rfl ?_)
          | (refine t_skU rfl (by decide) rfl ?_)
          | (first | refine t_rdG (by decide) rfl (by decide) rfl (fun K hK => ?_) | refine t_rd (by decide) (fun K hK => ?_)
             simp only [Xa, Xb, Xc, Xd, Xe, Xf, Xg, Xh, Xi, Xj, Xk, Xl, Xm, Xn, Xo, Xp, Xq, Xr, Xs, Xt, Xu, Xv, Xw, Xx, Xy, Xz, XA, XB, XD, XE, XF, XG, XH, XI, ev, XJ, upd, args1, args2, args3, args4, XK, XL, XM, extL, XN, XO, XP, XQ, XR, XT, XU, XV, XW, XX, XY, XZ, X0, X1, X2, X3, Addr.add, ↓reduceIte, Nat.reduceLT, Nat.reduceEqDiff, Nat.zero_add, Nat.reduceAdd, Option.map_some, X4, List.getElem_toArray, List.getElem_cons_zero, List.getElem_cons_succ, hf5, hw1]
             refine hK _ ?_
             clear hK K))
        refine t_done ?_
        refine t_inBlock ?_
        refine t_region ?_
        repeat (first
          | (refine t_skG rfl (by decide) rfl ?_)
          | (refine t_skU rfl (by decide) rfl ?_)
          | (first | refine t_rdG (by decide) rfl (by decide) rfl (fun K hK => ?_) | refine t_rd (by decide) (fun K hK => ?_)
             simp only [Xa, Xb, Xc, Xd, Xe, Xf, Xg, Xh, Xi, Xj, Xk, Xl, Xm, Xn, Xo, Xp, Xq, Xr, Xs, Xt, Xu, Xv, Xw, Xx, Xy, Xz, XA, XB, XD, XE, XF, XG, XH, XI, ev, XJ, upd, args1, args2, args3, args4, XK, XL, XM, extL, XN, XO, XP, XQ, XR, XT, XU, XV, XW, XX, XY, XZ, X0, X1, X2, X3, Addr.add, ↓reduceIte, Nat.reduceLT, Nat.reduceEqDiff, Nat.zero_add, Nat.reduceAdd, Option.map_some, X4, List.getElem_toArray, List.getElem_cons_zero, List.getElem_cons_succ, hf6, hw2]
             refine hK _ ?_
             clear hK K))
        refine t_done ?_
        refine t_inLoop ?_
        have k57 : Wk x [mb] O5 w5 O6 w7 := (Wk.ofRel r6).trans (Wk.ofMod md7 (by simp))
        have k07 := k05.trans (k57.mono (by simp))
        refine ih (l.length - (j + 1)) _ O6 w7 (by omega) ⟨k07, hf0, hf1, n + 1, j + 1, L.set n a, rfl, rfl, rfl, by omega, by omega, hc5.wk k57 (by simpa using n1) (by simpa using n2) (by simpa using n3) (by simpa using n0.symm), by simpa using hLl, by rw [take_set (by omega), hLt, hstep], ?_, hb7⟩
        rw [List.drop_set_of_lt (by omega), ← List.drop_drop, hLd, List.drop_drop]
    · have hd : decide ((j : Int) < (l.length : Int)) = false := decide_eq_false (by omega)
      have hjl : j = l.length := by omega
      repeat (first
        | (refine t_skG rfl (by decide) rfl ?_)
        | (refine t_skU rfl (by decide) rfl ?_)
        | (first | refine t_rdG (by decide) rfl (by decide) rfl (fun K hK => ?_) | refine t_rd (by decide) (fun K hK => ?_)
           simp only [Xa, Xb, Xc, Xd, Xe, Xf, Xg, Xh, Xi, Xj, Xk, Xl, Xm, Xn, Xo, Xp, Xq, Xr, Xs, Xt, Xu, Xv, Xw, Xx, Xy, Xz, XA, XB, XD, XE, XF, XG, XH, XI, ev, XJ, upd, args1, args2, args3, args4, XK, XL, XM, extL, XN, XO, XP, XQ, XR, XT, XU, XV, XW, XX, XY, XZ, X0, X1, X2, X3, Addr.add, ↓reduceIte, Nat.reduceLT, Nat.reduceEqDiff, Nat.zero_add, Nat.reduceAdd, Option.map_some, X4, List.getElem_toArray, List.getElem_cons_zero, List.getElem_cons_succ, hf0, hf6, hl, hd]
           refine hK _ ?_
           clear hK K))
      refine t_done ?_
      refine t_false rfl ?_
      refine t_exit rfl ?_
      refine t_seq ?_
      refine t_region ?_
      iterate 2 (first
        | (refine t_skG rfl (by decide) rfl ?_)
        | (refine t_skU rfl (by decide) rfl ?_)
        | (first | refine t_rdG (by decide) rfl (by decide) rfl (fun K hK => ?_) | refine t_rd (by decide) (fun K hK => ?_)
           simp only [Xa, Xb, Xc, Xd, Xe, Xf, Xg, Xh, Xi, Xj, Xk, Xl, Xm, Xn, Xo, Xp, Xq, Xr, Xs, Xt, Xu, Xv, Xw, Xx, Xy, Xz, XA, XB, XD, XE, XF, XG, XH, XI, ev, XJ, upd, args1, args2, args3, args4, XK, XL, XM, extL, XN, XO, XP, XQ, XR, XT, XU, XV, XW, XX, XY, XZ, X0, X1, X2, X3, Addr.add, ↓reduceIte, Nat.reduceLT, Nat.reduceEqDiff, Nat.zero_add, Nat.reduceAdd, Option.map_some, X4, List.getElem_toArray, List.getElem_cons_zero, List.getElem_cons_succ, hf0, hf5]
           refine hK _ ?_
           clear hK K))
      refine t_val (v := .slice (some ⟨mb, n * 4, none⟩) (l.length - n) (cap - n)) (by decide) (by
        rw [x_sliceLo (sz := 4) (a := some ⟨mb, 0, none⟩) (n := l.length) (cap := cap) (l := n) (k := .i64) Try.underlying25 info37 _ _ (by simp only [Xa, Xb, Xc, Xd, Xe, Xf, Xg, Xh, Xi, Xj, Xk, Xl, Xm, Xn, Xo, Xp, Xq, Xr, Xs, Xt, Xu, Xv, Xw, Xx, Xy, Xz, XA, XB, XD, XE, XF, XG, XH, XI, ev, XJ, upd, args1, args2, args3, args4, XK, XL, XM, extL, XN, XO, XP, XQ, XR, XT, XU, XV, XW, XX, XY, XZ, X0, X1, X2, X3, Addr.add, ↓reduceIte, Nat.reduceLT, Nat.reduceEqDiff, Nat.zero_add, Nat.reduceAdd, Option.map_some, X4, List.getElem_toArray, List.getElem_cons_zero, List.getElem_cons_succ]; exact hve) (by simp only [Xa, Xb, Xc, Xd, Xe, Xf, Xg, Xh, Xi, Xj, Xk, Xl, Xm, Xn, Xo, Xp, Xq, Xr, Xs, Xt, Xu, Xv, Xw, Xx, Xy, Xz, XA, XB, XD, XE, XF, XG, XH, XI, ev, XJ, upd, args1, args2, args3, args4, XK, XL, XM, extL, XN, XO, XP, XQ, XR, XT, XU, XV, XW, XX, XY, XZ, X0, X1, X2, X3, Addr.add, ↓reduceIte, Nat.reduceLT, Nat.reduceEqDiff, Nat.zero_add, Nat.reduceAdd, Option.map_some, X4, List.getElem_toArray, List.getElem_cons_zero, List.getElem_cons_succ]) (by omega), if_neg (by omega), Option.map_some, add_none, Nat.zero_add]) ?_
      obtain ⟨cap', c1, tt, hs1, ht1, hm1, hsz1, hle1, htk1⟩ := hb1.blk (by intro h0; have := congrArg List.length h0; simp at this; subst this; simp at hLl; omega)
      rw [List.length_map] at hs1 hle1 htk1
      have hcc : cap' = cap := by
        have e := hs1.symm.trans hve
        simp only [Value.slice.injEq] at e
        exact e.2.2
      subst hcc
      refine t_wp (by decide) rfl fun O2 w2 r2 => ?_
      have hlt2 := (Array.getElem?_eq_some_iff.1 hm1).1
      simp only [execOp, resolve]
      rw [wpS_bind]
      refine wpS_runL _ _ (runL_pure P _ _) ?_
      simp only [invoke, builtin, List.map_toArray, List.map_cons, List.map_nil, Xa, Xb, Xc, Xd, Xe, Xf, Xg, Xh, Xi, Xj, Xk, Xl, Xm, Xn, Xo, Xp, Xq, Xr, Xs, Xt, Xu, Xv, Xw, Xx, Xy, Xz, XA, XB, XD, XE, XF, XG, XH, XI, ev, XJ, upd, args1, args2, args3, args4, XK, XL, XM, extL, XN, XO, XP, XQ, XR, XT, XU, XV, XW, XX, XY, XZ, X0, X1, X2, X3, Addr.add, ↓reduceIte, Nat.reduceLT, Nat.reduceEqDiff, Nat.zero_add, Nat.reduceAdd, Option.map_some, X4, List.getElem_toArray, List.getElem_cons_zero, List.getElem_cons_succ]
      rw [wpS_bind]
      refine wpS_clear _ (c := c1) (t := tt) (by omega) ((r2.tags mb hlt2 (.inl ht1)).trans ht1) ((r2.block mb hlt2 (.inl ht1)).trans hm1) (by omega) fun w3 zs hw3 hzs hmod => ?_
      refine t_done ?_
      have hLk : L.take n = compL l floor bottom := by rw [hLt, hjl]; rfl
      have hnl : (compL l floor bottom).length = n := by rw [← hLk, List.length_take]; omega
      refine t_seq ?_
      refine t_region ?_
      iterate 2 (first
        | (refine t_skG rfl (by decide) rfl ?_)
        | (refine t_skU rfl (by decide) rfl ?_)
        | (first | refine t_rdG (by decide) rfl (by decide) rfl (fun K hK => ?_) | refine t_rd (by decide) (fun K hK => ?_)
           simp only [Xa, Xb, Xc, Xd, Xe, Xf, Xg, Xh, Xi, Xj, Xk, Xl, Xm, Xn, Xo, Xp, Xq, Xr, Xs, Xt, Xu, Xv, Xw, Xx, Xy, Xz, XA, XB, XD, XE, XF, XG, XH, XI, ev, XJ, upd, args1, args2, args3, args4, XK, XL, XM, extL, XN, XO, XP, XQ, XR, XT, XU, XV, XW, XX, XY, XZ, X0, X1, X2, X3, Addr.add, ↓reduceIte, Nat.reduceLT, Nat.reduceEqDiff, Nat.zero_add, Nat.reduceAdd, Option.map_some, X4, List.getElem_toArray, List.getElem_cons_zero, List.getElem_cons_succ, hf0, hf5, put_none]
           refine hK _ ?_
           clear hK K))
      refine t_val (v := .slice (some ⟨mb, 0, none⟩) n cap') (by decide) (x_sliceHi (sz := 4) (a := some ⟨mb, 0, none⟩) (n := l.length) (cap := cap') (h := n) (k := .i64) Try.underlying25 info37 _ _ (by simp only [Xa, Xb, Xc, Xd, Xe, Xf, Xg, Xh, Xi, Xj, Xk, Xl, Xm, Xn, Xo, Xp, Xq, Xr, Xs, Xt, Xu, Xv, Xw, Xx, Xy, Xz, XA, XB, XD, XE, XF, XG, XH, XI, ev, XJ, upd, args1, args2, args3, args4, XK, XL, XM, extL, XN, XO, XP, XQ, XR, XT, XU, XV, XW, XX, XY, XZ, X0, X1, X2, X3, Addr.add, ↓reduceIte, Nat.reduceLT, Nat.reduceEqDiff, Nat.zero_add, Nat.reduceAdd, Option.map_some, X4, List.getElem_toArray, List.getElem_cons_zero, List.getElem_cons_succ, put_none]; exact hve) (by simp only [Xa, Xb, Xc, Xd, Xe, Xf, Xg, Xh, Xi, Xj, Xk, Xl, Xm, Xn, Xo, Xp, Xq, Xr, Xs, Xt, Xu, Xv, Xw, Xx, Xy, Xz, XA, XB, XD, XE, XF, XG, XH, XI, ev, XJ, upd, args1, args2, args3, args4, XK, XL, XM, extL, XN, XO, XP, XQ, XR, XT, XU, XV, XW, XX, XY, XZ, X0, X1, X2, X3, Addr.add, ↓reduceIte, Nat.reduceLT, Nat.reduceEqDiff, Nat.zero_add, Nat.reduceAdd, Option.map_some, X4, List.getElem_toArray, List.getElem_cons_zero, List.getElem_cons_succ, put_none]) (by omega)) ?_
      repeat (first
        | (refine t_skG rfl (by decide) rfl ?_)
        | (refine t_skU rfl (by decide) rfl ?_)
        | (first | refine t_rdG (by decide) rfl (by decide) rfl (fun K hK => ?_) | refine t_rd (by decide) (fun K hK => ?_)
           simp only [Xa, Xb, Xc, Xd, Xe, Xf, Xg, Xh, Xi, Xj, Xk, Xl, Xm, Xn, Xo, Xp, Xq, Xr, Xs, Xt, Xu, Xv, Xw, Xx, Xy, Xz, XA, XB, XD, XE, XF, XG, XH, XI, ev, XJ, upd, args1, args2, args3, args4, XK, XL, XM, extL, XN, XO, XP, XQ, XR, XT, XU, XV, XW, XX, XY, XZ, X0, X1, X2, X3, Addr.add, ↓reduceIte, Nat.reduceLT, Nat.reduceEqDiff, Nat.zero_add, Nat.reduceAdd, Option.map_some, X4, List.getElem_toArray, List.getElem_cons_zero, List.getElem_cons_succ, put_none]
           refine hK _ ?_
           clear hK K))
      refine t_done ?_
      refine t_ret ?_
      refine t_leave1 rfl Try.func32 Try.results32 ?_
      refine h O2 w3 _ (k1.trans ((Wk.ofRel r2).trans (Wk.ofMod hmod (by simp)))) ⟨fun b hb => by obtain ⟨u, _, rfl⟩ := List.mem_map.1 hb; rfl, .inr ⟨cap', _, tt, by rw [List.length_map, hnl]; rfl, (r2.tags mb hlt2 (.inl ht1)).trans ht1, hw3, ?_, by rw [List.length_map, hnl]; omega, ?_⟩⟩
      · simp [hzs]; omega
      · have hall : ∀ a ∈ L.map Ent.cells, a.size = 4 := fun a ha => by obtain ⟨u, _, rfl⟩ := List.mem_map.1 ha; rfl
        have hlc : (c1.toList.take (n * 4)).length = n * 4 := by rw [List.length_take, Array.length_toList]; omega
        have e : ∀ R : List Value, (c1.toList.take (n * 4) ++ zs ++ R).take (n * 4) = c1.toList.take (n * 4) := fun R => by
          rw [List.append_assoc]; exact List.take_left' hlc
        rw [List.length_map, hnl, ← hLk, List.map_take, ← flat_take hall, ← htk1, List.toList_toArray, e, List.take_take]
        congr 1; omega
end
end Go.Proofs.Ytdajdembeacefaa.M
set_option linter.unusedSimpArgs false
set_option linter.unusedVariables false
namespace Go.Proofs.Ytdajdembeacefaa.M
open Go.Conc

section
variable {x : Th} {St : Gh → Goroutine → World → Prop}
set_option maxHeartbeats 4000000 in
theorem Compact_M (l : List Ent) (v : Value) (floor : Int) (bottom : Bool) (O : Gh) (w : World) (c : Frame) (cs : List Frame) (hv : SlE (ldOf x O w) v l) (hlen : l.length < 100000)
    (h : ordL l = true → ∀ O' w' m s, Rel x O w O' w' → Buf 4 x O' w' m s ((compL l floor bottom).map Ent.cells) → w.heap.size ≤ m → Tree P x St O' (G (c.finish (.tuple #[s, .int .i64 0])) cs) w')
    (herr : ordL l = false → ∀ O' w', Rel x O w O' w' → Tree P x St O' (G (c.finish (.tuple #[.slice none 0 0, .int .i64 60])) cs) w') :
    Tree P x St O (G (Frame.enter P 18 #[v, .int .i64 floor, .bool bottom] .normal) (c :: cs)) w := by
  rw [enter3 _ _ _ Try.func18 rfl Try.ntmps18 (by decide)]
  refine t_seq ?_
  refine t_region ?_
  refine t_box #[.int .i64 floor] rfl (by decide) ?_
  intro m4 O1 w1 n1
  refine t_box #[.bool bottom] rfl (by decide) ?_
  intro m5 O2 w2 n2
  repeat (first
    | (refine t_skG rfl (by decide) rfl ?_)
    | (refine t_skU rfl (by decide) rfl ?_)
    | (first | refine t_rdG (by decide) rfl (by decide) rfl (fun K hK => ?_) | refine t_rd (by decide) (fun K hK => ?_)
       simp only [Xa, Xb, Xc, Xd, Xe, Xf, Xg, Xh, Xi, Xj, Xk, Xl, Xm, Xn, Xo, Xp, Xq, Xr, Xs, Xt, Xu, Xv, Xw, Xx, Xy, Xz, XA, XB, XD, XE, XF, XG, XH, XI, ev, XJ, upd, args1, args2, args3, args4, XK, XL, XM, extL, XN, XO, XP, XQ, XR, XT, XU, XV, XW, XX, XY, XZ, X0, X1, X2, X3, Addr.add, ↓reduceIte, Nat.reduceLT, Nat.reduceEqDiff, Nat.zero_add, Nat.reduceAdd, Option.map_some, X4, List.getElem_toArray, List.getElem_cons_zero, List.getElem_cons_succ]
       refine hK _ ?_
       clear hK K))
  refine t_done ?_
  have o4 : Own1 x O1 w1 m4 (.cells #[.int .i64 floor] 3 (0, 0)) := ⟨n1.tag, n1.obj⟩
  have o5 : Own1 x O2 w2 m5 (.cells #[.bool bottom] 4 (0, 0)) := ⟨n2.tag, n2.obj⟩
  have g4 := n1.ge
  have g5 := n2.ge
  have l4 := o4.lt
  have l5 := o5.lt
  have s1 := n1.rel.size
  have r2 := n1.rel.trans n2.rel
  refine t_seq ?_
  refine t_seq ?_
  refine t_region ?_
  iterate 1 (first
    | (refine t_skG rfl (by decide) rfl ?_)
    | (refine t_skU rfl (by decide) rfl ?_)
    | (first | refine t_rdG (by decide) rfl (by decide) rfl (fun K hK => ?_) | refine t_rd (by decide) (fun K hK => ?_)
       simp only [Xa, Xb, Xc, Xd, Xe, Xf, Xg, Xh, Xi, Xj, Xk, Xl, Xm, Xn, Xo, Xp, Xq, Xr, Xs, Xt, Xu, Xv, Xw, Xx, Xy, Xz, XA, XB, XD, XE, XF, XG, XH, XI, ev, XJ, upd, args1, args2, args3, args4, XK, XL, XM, extL, XN, XO, XP, XQ, XR, XT, XU, XV, XW, XX, XY, XZ, X0, X1, X2, X3, Addr.add, ↓reduceIte, Nat.reduceLT, Nat.reduceEqDiff, Nat.zero_add, Nat.reduceAdd, Option.map_some, X4, List.getElem_toArray, List.getElem_cons_zero, List.getElem_cons_succ]
       refine hK _ ?_
       clear hK K))
  refine t_callA #[v] (by decide) Try.func23 nm23 rfl (by simp only [List.map_toArray, List.map_cons, List.map_nil, Xa, Xb, Xc, Xd, Xe, Xf, Xg, Xh, Xi, Xj, Xk, Xl, Xm, Xn, Xo, Xp, Xq, Xr, Xs, Xt, Xu, Xv, Xw, Xx, Xy, Xz, XA, XB, XD, XE, XF, XG, XH, XI, ev, XJ, upd, args1, args2, args3, args4, XK, XL, XM, extL, XN, XO, XP, XQ, XR, XT, XU, XV, XW, XX, XY, XZ, X0, X1, X2, X3, Addr.add, ↓reduceIte, Nat.reduceLT, Nat.reduceEqDiff, Nat.zero_add, Nat.reduceAdd, Option.map_some, X4, List.getElem_toArray, List.getElem_cons_zero, List.getElem_cons_succ]) ?_
  intro c2 hret
  refine ordered_M _ _ _ _ _ _ (hv.rely r2) (by omega) ?_
  intro O3 w3 r3
  refine hret _ O3 w3 ?_
  clear hret
  cases ho : ordL l with
  | false =>
    repeat (first
      | (refine t_skG rfl (by decide) rfl ?_)
      | (refine t_skU rfl (by decide) rfl ?_)
      | (first | refine t_rdG (by decide) rfl (by decide) rfl (fun K hK => ?_) | refine t_rd (by decide) (fun K hK => ?_)
         simp only [Xa, Xb, Xc, Xd, Xe, Xf, Xg, Xh, Xi, Xj, Xk, Xl, Xm, Xn, Xo, Xp, Xq, Xr, Xs, Xt, Xu, Xv, Xw, Xx, Xy, Xz, XA, XB, XD, XE, XF, XG, XH, XI, ev, XJ, upd, args1, args2, args3, args4, XK, XL, XM, extL, XN, XO, XP, XQ, XR, XT, XU, XV, XW, XX, XY, XZ, X0, X1, X2, X3, Addr.add, ↓reduceIte, Nat.reduceLT, Nat.reduceEqDiff, Nat.zero_add, Nat.reduceAdd, Option.map_some, X4, List.getElem_toArray, List.getElem_cons_zero, List.getElem_cons_succ]
         refine hK _ ?_
         clear hK K))
    refine t_done ?_
    refine t_true rfl ?_
    refine t_seq ?_
    refine t_region ?_
    repeat (first
      | (refine t_skG rfl (by decide) rfl ?_)
      | (refine t_skU rfl (by decide) rfl ?_)
      | (first | refine t_rdG (by decide) rfl (by decide) rfl (fun K hK => ?_) | refine t_rd (by decide) (fun K hK => ?_)
         simp only [Xa, Xb, Xc, Xd, Xe, Xf, Xg, Xh, Xi, Xj, Xk, Xl, Xm, Xn, Xo, Xp, Xq, Xr, Xs, Xt, Xu, Xv, Xw, Xx, Xy, Xz, XA, XB, XD, XE, XF, XG, XH, XI, ev, XJ, upd, args1, args2, args3, args4, XK, XL, XM, extL, XN, XO, XP, XQ, XR, XT, XU, XV, XW, XX, XY, XZ, X0, X1, X2, X3, Addr.add, ↓reduceIte, Nat.reduceLT, Nat.reduceEqDiff, Nat.zero_add, Nat.reduceAdd, Option.map_some, X4, List.getElem_toArray, List.getElem_cons_zero, List.getElem_cons_succ]
         refine hK _ ?_
         clear hK K))
    refine t_done ?_
    refine t_ret ?_
    refine t_leave2 rfl Try.func18 Try.results18 ?_
    exact herr ho O3 w3 (r2.trans r3)
  | true =>
    replace h := h ho
    repeat (first
      | (refine t_skG rfl (by decide) rfl ?_)
      | (refine t_skU rfl (by decide) rfl ?_)
      | (first | refine t_rdG (by decide) rfl (by decide) rfl (fun K hK => ?_) | refine t_rd (by decide) (fun K hK => ?_)
         simp only [Xa, Xb, Xc, Xd, Xe, Xf, Xg, Xh, Xi, Xj, Xk, Xl, Xm, Xn, Xo, Xp, Xq, Xr, Xs, Xt, Xu, Xv, Xw, Xx, Xy, Xz, XA, XB, XD, XE, XF, XG, XH, XI, ev, XJ, upd, args1, args2, args3, args4, XK, XL, XM, extL, XN, XO, XP, XQ, XR, XT, XU, XV, XW, XX, XY, XZ, X0, X1, X2, X3, Addr.add, ↓reduceIte, Nat.reduceLT, Nat.reduceEqDiff, Nat.zero_add, Nat.reduceAdd, Option.map_some, X4, List.getElem_toArray, List.getElem_cons_zero, List.getElem_cons_succ]
         refine hK _ ?_
         clear hK K))
    refine t_done ?_
    refine t_false rfl ?_
    refine t_skip ?_
    refine t_seq ?_
    refine t_region ?_
    refine t_makeMap (by decide) ?_
    intro mm O4 w4 n4 mp4
    refine t_alloc (z := .map none) (by decide) rfl ?_
    intro m8 O5 w5 n5
    refine t_store (sz := 1) (m := m8) (off := 0) [.map (some mm)] (by decide) rfl (by simp only [Xa, Xb, Xc, Xd, Xe, Xf, Xg, Xh, Xi, Xj, Xk, Xl, Xm, Xn, Xo, Xp, Xq, Xr, Xs, Xt, Xu, Xv, Xw, Xx, Xy, Xz, XA, XB, XD, XE, XF, XG, XH, XI, ev, XJ, upd, args1, args2, args3, args4, XK, XL, XM, extL, XN, XO, XP, XQ, XR, XT, XU, XV, XW, XX, XY, XZ, X0, X1, X2, X3, Addr.add, ↓reduceIte, Nat.reduceLT, Nat.reduceEqDiff, Nat.zero_add, Nat.reduceAdd, Option.map_some, X4, List.getElem_toArray, List.getElem_cons_zero, List.getElem_cons_succ]) (by simp only [Xa, Xb, Xc, Xd, Xe, Xf, Xg, Xh, Xi, Xj, Xk, Xl, Xm, Xn, Xo, Xp, Xq, Xr, Xs, Xt, Xu, Xv, Xw, Xx, Xy, Xz, XA, XB, XD, XE, XF, XG, XH, XI, ev, XJ, upd, args1, args2, args3, args4, XK, XL, XM, extL, XN, XO, XP, XQ, XR, XT, XU, XV, XW, XX, XY, XZ, X0, X1, X2, X3, Addr.add, ↓reduceIte, Nat.reduceLT, Nat.reduceEqDiff, Nat.zero_add, Nat.reduceAdd, Option.map_some, X4, List.getElem_toArray, List.getElem_cons_zero, List.getElem_cons_succ]; rfl) rfl (by simp [one?]) (.inl n5.tag) n5.obj (by decide) ?_
    intro O6 w6 w7 r6 md7 ht7 hb7
    refine t_done ?_
    have gm := n4.ge
    have lm := (Array.getElem?_eq_some_iff.1 n4.obj).1
    have g8 := n5.ge
    have l8 := (Array.getElem?_eq_some_iff.1 n5.obj).1
    have z3 := r3.size
    have k7 : ∀ S : List Nat, m8 ∈ S → Wk x S O4 w4 O6 w7 := fun S hS => (Wk.ofRel (n5.rel.trans r6)).trans (Wk.ofMod md7 hS)
    have k37 : Wk x [m8] O2 w2 O6 w7 := (Wk.ofRel (r3.trans n4.rel)).trans (k7 _ (by simp))
    have k17 : Wk x [m8] O1 w1 O6 w7 := (Wk.ofRel n2.rel).trans k37
    have o47 := o4.wk k17 (by simp; omega)
    have o57 := o5.wk k37 (by simp; omega)
    have mp7 := mp4.wk (k7 [m8] (by simp)) (by simp; omega)
    have o87 : Own1 x O6 w7 m8 (.cells #[.map (some mm)] 71 (0, 0)) := ⟨ht7.trans n5.tag, by rw [hb7]; rfl⟩
    have r7 : Rel x O w O6 w7 := ((r2.trans ((r3.trans n4.rel).trans (n5.rel.trans r6)))).mod md7 (by omega)
    have hc7 : Clo x O6 w7 m4 m8 m5 mm floor bottom [] := ⟨o47, o87, o57, ⟨[], mp7, fun k => rfl⟩, by omega, by omega, by omega⟩
    have z7 : m8 < w7.heap.size := o87.lt
    have z8 : mm < w7.heap.size := by omega
    refine t_seq ?_
    refine t_region ?_
    iterate 1 (first
      | (refine t_skG rfl (by decide) rfl ?_)
      | (refine t_skU rfl (by decide) rfl ?_)
      | (first | refine t_rdG (by decide) rfl (by decide) rfl (fun K hK => ?_) | refine t_rd (by decide) (fun K hK => ?_)
         simp only [Xa, Xb, Xc, Xd, Xe, Xf, Xg, Xh, Xi, Xj, Xk, Xl, Xm, Xn, Xo, Xp, Xq, Xr, Xs, Xt, Xu, Xv, Xw, Xx, Xy, Xz, XA, XB, XD, XE, XF, XG, XH, XI, ev, XJ, upd, args1, args2, args3, args4, XK, XL, XM, extL, XN, XO, XP, XQ, XR, XT, XU, XV, XW, XX, XY, XZ, X0, X1, X2, X3, Addr.add, ↓reduceIte, Nat.reduceLT, Nat.reduceEqDiff, Nat.zero_add, Nat.reduceAdd, Option.map_some, X4, List.getElem_toArray, List.getElem_cons_zero, List.getElem_cons_succ]
         refine hK _ ?_
         clear hK K))
    refine t_callA #[v] (by decide) Try.func33 nm33 rfl (by simp only [List.map_toArray, List.map_cons, List.map_nil, Xa, Xb, Xc, Xd, Xe, Xf, Xg, Xh, Xi, Xj, Xk, Xl, Xm, Xn, Xo, Xp, Xq, Xr, Xs, Xt, Xu, Xv, Xw, Xx, Xy, Xz, XA, XB, XD, XE, XF, XG, XH, XI, ev, XJ, upd, args1, args2, args3, args4, XK, XL, XM, extL, XN, XO, XP, XQ, XR, XT, XU, XV, XW, XX, XY, XZ, X0, X1, X2, X3, Addr.add, ↓reduceIte, Nat.reduceLT, Nat.reduceEqDiff, Nat.zero_add, Nat.reduceAdd, Option.map_some, X4, List.getElem_toArray, List.getElem_cons_zero, List.getElem_cons_succ]) ?_
    intro c3 hret
    refine Clone_M l v O6 w7 c3 _ (hv.rely r7) hlen fun O8 w8 mb s r8 hb8 gb => hret _ O8 w8 ?_
    clear hret
    refine t_val (v := cloV m4 m8 m5) (by decide) (by rw [x_makeFunc]; simp only [List.map_toArray, List.map_cons, List.map_nil, Xa, Xb, Xc, Xd, Xe, Xf, Xg, Xh, Xi, Xj, Xk, Xl, Xm, Xn, Xo, Xp, Xq, Xr, Xs, Xt, Xu, Xv, Xw, Xx, Xy, Xz, XA, XB, XD, XE, XF, XG, XH, XI, ev, XJ, upd, args1, args2, args3, args4, XK, XL, XM, extL, XN, XO, XP, XQ, XR, XT, XU, XV, XW, XX, XY, XZ, X0, X1, X2, X3, Addr.add, ↓reduceIte, Nat.reduceLT, Nat.reduceEqDiff, Nat.zero_add, Nat.reduceAdd, Option.map_some, X4, List.getElem_toArray, List.getElem_cons_zero, List.getElem_cons_succ]; rfl) ?_
    refine t_callA #[s, cloV m4 m8 m5] (by decide) Try.func32 nm32 rfl (by simp only [List.map_toArray, List.map_cons, List.map_nil, Xa, Xb, Xc, Xd, Xe, Xf, Xg, Xh, Xi, Xj, Xk, Xl, Xm, Xn, Xo, Xp, Xq, Xr, Xs, Xt, Xu, Xv, Xw, Xx, Xy, Xz, XA, XB, XD, XE, XF, XG, XH, XI, ev, XJ, upd, args1, args2, args3, args4, XK, XL, XM, extL, XN, XO, XP, XQ, XR, XT, XU, XV, XW, XX, XY, XZ, X0, X1, X2, X3, Addr.add, ↓reduceIte, Nat.reduceLT, Nat.reduceEqDiff, Nat.zero_add, Nat.reduceAdd, Option.map_some, X4, List.getElem_toArray, List.getElem_cons_zero, List.getElem_cons_succ]) ?_
    intro c4 hret
    refine Delete_M l s O8 w8 c4 _ hb8 (hc7.rely r8) (by omega) (by omega) (by omega) (by omega) hlen fun O9 w9 s' k9 hb9 => hret _ O9 w9 ?_
    clear hret
    repeat (first
      | (refine t_skG rfl (by decide) rfl ?_)
      | (refine t_skU rfl (by decide) rfl ?_)
      | (first | refine t_rdG (by decide) rfl (by decide) rfl (fun K hK => ?_) | refine t_rd (by decide) (fun K hK => ?_)
         simp only [Xa, Xb, Xc, Xd, Xe, Xf, Xg, Xh, Xi, Xj, Xk, Xl, Xm, Xn, Xo, Xp, Xq, Xr, Xs, Xt, Xu, Xv, Xw, Xx, Xy, Xz, XA, XB, XD, XE, XF, XG, XH, XI, ev, XJ, upd, args1, args2, args3, args4, XK, XL, XM, extL, XN, XO, XP, XQ, XR, XT, XU, XV, XW, XX, XY, XZ, X0, X1, X2, X3, Addr.add, ↓reduceIte, Nat.reduceLT, Nat.reduceEqDiff, Nat.zero_add, Nat.reduceAdd, Option.map_some, X4, List.getElem_toArray, List.getElem_cons_zero, List.getElem_cons_succ]
         refine hK _ ?_
         clear hK K))
    refine t_done ?_
    refine t_ret ?_
    refine t_leave2 rfl Try.func18 Try.results18 ?_
    have z0 := r7.size
    exact h O9 w9 mb s' (k9.rel O w (r7.trans r8) fun m hm => by
      simp only [List.mem_cons, List.not_mem_nil, or_false] at hm
      rcases hm with rfl | rfl <;> omega) hb9 (by omega)
end
end Go.Proofs.Ytdajdembeacefaa.M
set_option linter.unusedSimpArgs false
set_option linter.unusedVariables false
namespace Go.Proofs.Ytdajdembeacefaa.M
open Go.Conc

theorem key_eq {x y : ByteArray} (h : x.toList = y.toList) : x = y := by
  rw [ByteArray.toList_eq, ByteArray.toList_eq] at h
  exact ByteArray.ext (Array.toList_inj.mp h)
theorem key_beq (x y : ByteArray) : (x == y) = (x.toList == y.toList) := by
  by_cases h : x = y
  · subst h; simp
  · have : ¬ x.toList = y.toList := fun e => h (key_eq e)
    have h1 : (x == y) = false := by simpa using h
    have h2 : (x.toList == y.toList) = false := by simpa using this
    rw [h1, h2]
/-- One of the key's entries that aren't above the number. -/
def pk (key : ByteArray) (seq : Int) (e : Ent) : Bool := (e.key.toList == key.toList) && decide (e.seq ≤ seq)
theorem getS_keep {key : ByteArray} {seq : Int} {a x : Ent} (ha : a.key.toList = key.toList) (hb : bef a x = true) : getS key seq (some a) x = some a := by
  unfold getS
  cases hk : (x.key.toList == key.toList) with
  | false => rfl
  | true =>
    have hk' : x.key.toList = key.toList := by simpa using hk
    rcases bef_iff.1 hb with h | ⟨_, h⟩
    · rw [ha, hk', bl_irr] at h; cases h
    · have : decide (a.seq < x.seq) = false := decide_eq_false (by omega)
      simp [this]
theorem getL_some {key : ByteArray} {seq : Int} {a : Ent} (ha : a.key.toList = key.toList) : ∀ {l : List Ent}, (∀ x ∈ l, bef a x = true) → l.foldl (getS key seq) (some a) = some a
  | [], _ => rfl
  | x :: l, h => by
    rw [List.foldl_cons, getS_keep ha (h x (List.mem_cons_self ..))]
    exact getL_some ha fun y hy => h y (List.mem_cons_of_mem _ hy)
theorem getL_find : ∀ {l : List Ent} (key : ByteArray) (seq : Int), Srt l → getL l key seq = l.find? (pk key seq)
  | [], _, _, _ => rfl
  | a :: l, key, seq, h => by
    have ih := getL_find (l := l) key seq (List.Pairwise.of_cons h)
    unfold getL at ih ⊢
    rw [List.foldl_cons, List.find?_cons]
    cases hp : pk key seq a with
    | true =>
      unfold pk at hp
      rw [Bool.and_eq_true] at hp
      have hg : getS key seq none a = some a := by unfold getS; rw [hp.1, hp.2]; rfl
      rw [hg]
      exact getL_some (by simpa using hp.1) fun x hx => List.rel_of_pairwise_cons h hx
    | false =>
      have hg : getS key seq none a = none := by
        unfold pk at hp
        unfold getS
        cases hk : (a.key.toList == key.toList) with
        | false => rfl
        | true => rw [hk, Bool.true_and] at hp; rw [hp]; rfl
      rw [hg]; exact ih

/-! ### Compact -/
theorem sumUp_congr {α : Type} {l : List Ent} {F H : Nat → Ent → List α} (h : ∀ j a, l[j]? = some a → F j a = H j a) : ∀ n, sumUp l F n = sumUp l H n
  | 0 => rfl
  | n + 1 => by
    rw [sumUp, sumUp, sumUp_congr h n]
    cases ha : l[n]? with
    | none => rfl
    | some a => simp only; rw [h n a ha]
theorem filter_sumUp {l : List Ent} {F : Ent → Bool} : ∀ n, (l.take n).filter F = sumUp l (fun _ a => if F a then [a] else []) n
  | 0 => rfl
  | n + 1 => by
    cases ha : l[n]? with
    | none =>
      rw [sumUp, ha, ← filter_sumUp n, List.take_add_one, ha]; simp
    | some a => rw [filter_step ha, sumUp_step ha, filter_sumUp n]
theorem keep_del {l : List Ent} (h : Srt l) {floor : Int} {bottom : Bool} {j : Nat} {a : Ent} (ha : l[j]? = some a) : keepAt l floor bottom a = !delAt floor bottom (l.take j) a := by
  unfold keepAt delAt
  cases hf : decide (floor < a.seq) with
  | true => simp
  | false =>
    have hle : a.seq ≤ floor := by have := of_decide_eq_false hf; omega
    have hpa : pk a.key floor a = true := by unfold pk; simp [hle]
    have hlt := (List.getElem?_eq_some_iff.1 ha).1
    have hsplit : l = l.take j ++ a :: l.drop (j + 1) := by
      conv => lhs; rw [← List.take_append_drop j l, List.drop_eq_getElem_cons hlt]
      rw [(List.getElem?_eq_some_iff.1 ha).2]
    have hcnt : cnt floor (l.take j) a.key = ((l.take j).filter (pk a.key floor)).length := by
      unfold cnt; congr 2; funext b; rw [key_beq]; rfl
    rw [getL_find a.key floor h]
    have hfind : l.find? (pk a.key floor) = ((l.take j).find? (pk a.key floor)).or (some a) := by
      conv => lhs; rw [hsplit]
      rw [List.find?_append, List.find?_cons, hpa]
    rw [hfind, hcnt]
    cases hp : (l.take j).find? (pk a.key floor) with
    | none =>
      have h0 : (l.take j).filter (pk a.key floor) = [] := by
        rw [List.find?_eq_none] at hp
        exact List.filter_eq_nil_iff.2 hp
      rw [h0]
      simp [keepOk]
    | some u =>
      have hu : u ∈ l.take j := List.mem_of_find?_eq_some hp
      have hpu : pk a.key floor u = true := List.find?_some hp
      have hpos : 0 < ((l.take j).filter (pk a.key floor)).length := List.length_pos_of_mem (List.mem_filter.2 ⟨hu, hpu⟩)
      have hb : bef u a = true := by
        rw [hsplit] at h
        exact (List.pairwise_append.1 h).2.2 u hu a (List.mem_cons_self ..)
      unfold pk at hpu
      rw [Bool.and_eq_true] at hpu
      have hk : u.key.toList = a.key.toList := by simpa using hpu.1
      have hs : (u.seq == a.seq) = false := by
        rcases bef_iff.1 hb with h1 | ⟨_, h1⟩
        · rw [hk, bl_irr] at h1; cases h1
        · simpa using (show ¬ u.seq = a.seq by omega)
      simp [keepOk, hs, hpos]
theorem comp_ref {l : List Ent} (h : Srt l) (floor : Int) (bottom : Bool) : compL l floor bottom = refCompL l floor bottom := by
  unfold compL refCompL
  have h1 := filter_sumUp (l := l) (F := keepAt l floor bottom) l.length
  rw [List.take_of_length_le (Nat.le_refl _)] at h1
  rw [h1]
  refine sumUp_congr (fun j a ha => ?_) _
  unfold keepF
  rw [keep_del h ha]
  cases delAt floor bottom (l.take j) a <;> rfl

/-! ### Visible -/
def refG (L : List Ent) (seq : Int) : Option (List UInt8) → List Ent → List Pr
  | _, [] => []
  | prev, a :: l => (if prev == some a.key.toList then [] else getV (L.find? (pk a.key seq))) ++ refG L seq (some a.key.toList) l
theorem ref_refG {L : List Ent} (h : Srt L) (seq : Int) : refVisL L seq = refG L seq none L := by
  have key : ∀ (d j : Nat), d = L.length - j → j ≤ L.length → sumUp L (refVisAt L seq) L.length = sumUp L (refVisAt L seq) j ++ refG L seq (if 0 < j then (L[j - 1]?).map (·.key.toList) else none) (L.drop j) := by
    intro d
    induction d with
    | zero =>
      intro j hd hj
      have : j = L.length := by omega
      subst this
      rw [List.drop_of_length_le (Nat.le_refl _), refG, List.append_nil]
    | succ d ih =>
      intro j hd hj
      have hlt : j < L.length := by omega
      rw [ih (j + 1) (by omega) (by omega), sumUp_step (List.getElem?_eq_getElem hlt), List.drop_eq_getElem_cons hlt, refG, List.append_assoc, if_pos (Nat.succ_pos j), Nat.add_sub_cancel, List.getElem?_eq_getElem hlt]
      congr 1
      congr 1
      unfold refVisAt sameKey
      rw [getL_find _ seq h]
      by_cases hj0 : 0 < j
      · rw [if_pos hj0]
        have hlt' : j - 1 < L.length := by omega
        rw [List.getElem?_eq_getElem hlt']
        simp [hj0]
      · simp [hj0]
  have := key L.length 0 (by omega) (Nat.zero_le _)
  unfold refVisL
  rw [this]; rfl
theorem refG_same {L : List Ent} {seq : Int} {k : List UInt8} : ∀ {g r : List Ent}, (∀ x ∈ g, x.key.toList = k) → refG L seq (some k) (g ++ r) = refG L seq (some k) r
  | [], _, _ => rfl
  | x :: g, r, h => by
    have hx := h x (List.mem_cons_self ..)
    rw [List.cons_append, refG, hx]
    simp only [BEq.rfl, if_true, List.nil_append]
    exact refG_same fun y hy => h y (List.mem_cons_of_mem _ hy)
theorem visIn_spec {seq : Int} {k : ByteArray} {r : List Ent} (hr : ∀ x ∈ r, keyIs k x = false) : ∀ {g : List Ent}, (∀ x ∈ g, keyIs k x = true) → visIn seq k (g ++ r) = (getV ((g ++ r).find? (pk k seq)), r)
  | [], _ => by
    have hnone : r.find? (pk k seq) = none := List.find?_eq_none.2 fun x hx => by
      have := hr x hx; unfold keyIs at this; unfold pk; rw [this]; simp
    rw [List.nil_append, hnone]
    cases r with
    | nil => rfl
    | cons e r => unfold visIn; rw [hr e (List.mem_cons_self ..)]; rfl
  | e :: g, h => by
    have he := h e (List.mem_cons_self ..)
    have ih := visIn_spec (seq := seq) hr (g := g) fun x hx => h x (List.mem_cons_of_mem _ hx)
    have hke : e.key = k := key_eq (by simpa [keyIs] using he)
    rw [List.cons_append]
    unfold visIn
    rw [he, if_pos rfl, List.find?_cons]
    by_cases hs : seq < e.seq
    · have hp : pk k seq e = false := by unfold pk; simp; intro _; omega
      rw [if_pos hs, ih, hp]
    · have hp : pk k seq e = true := by
        unfold pk; unfold keyIs at he; rw [he]; simp; omega
      rw [if_neg hs, hp]
      have hdw : (e :: (g ++ r)).dropWhile (keyIs k) = r := by
        rw [← List.cons_append, List.dropWhile_append_of_pos h]
        cases r with
        | nil => rfl
        | cons y r => rw [List.dropWhile_cons_of_neg (by simp [hr y (List.mem_cons_self ..)])]
      rw [hdw]
      simp [getV, hke]
theorem vis_group {L : List Ent} {seq : Int} : ∀ (n : Nat) (l : List Ent) (prev : Option (List UInt8)), l.length ≤ n → Srt l → (∀ y ∈ l, L.find? (pk y.key seq) = l.find? (pk y.key seq)) → (∀ k', prev = some k' → ∀ y ∈ l, y.key.toList ≠ k') → visF seq n l = refG L seq prev l
  | 0, [], _, _, _, _, _ => rfl
  | 0, _ :: _, _, h, _, _, _ => by simp at h
  | n + 1, [], _, _, _, _, _ => rfl
  | n + 1, a :: l, prev, hn, hs, hf, hp => by
    have hg : ∀ x ∈ (a :: l).takeWhile (keyIs a.key), keyIs a.key x = true := fun x hx => mem_tw hx
    have hsplit : (a :: l).takeWhile (keyIs a.key) ++ (a :: l).dropWhile (keyIs a.key) = a :: l := List.takeWhile_append_dropWhile
    have haa : keyIs a.key a = true := by simp [keyIs]
    have htw : (a :: l).takeWhile (keyIs a.key) = a :: l.takeWhile (keyIs a.key) := List.takeWhile_cons_of_pos haa
    generalize hr : (a :: l).dropWhile (keyIs a.key) = r at hsplit
    generalize hgg : l.takeWhile (keyIs a.key) = g at htw
    rw [htw] at hsplit hg
    -- no entry of the rest has the key
    have hrk : ∀ x ∈ r, keyIs a.key x = false := by
      intro x hx
      cases r with
      | nil => simp at hx
      | cons y r' =>
        have hy : keyIs a.key y = false := by
          have := List.head?_dropWhile_not (keyIs a.key) (a :: l)
          rw [hr] at this
          simpa using this
        have hsr : Srt ((a :: g) ++ y :: r') := by rw [hsplit]; exact hs
        have hay : bef a y = true := (List.pairwise_append.1 hsr).2.2 a (List.mem_cons_self ..) y (List.mem_cons_self ..)
        have hlt : Op.bytesLess a.key.toList y.key.toList = true := by
          rcases bef_iff.1 hay with h1 | ⟨h1, _⟩
          · exact h1
          · unfold keyIs at hy; rw [h1] at hy; simp at hy
        rcases List.mem_cons.1 hx with rfl | hx
        · exact hy
        · have hyx : bef y x = true := List.rel_of_pairwise_cons (List.pairwise_append.1 hsr).2.1 hx
          have hlt2 : Op.bytesLess a.key.toList x.key.toList = true := by
            rcases bef_iff.1 hyx with h1 | ⟨h1, _⟩
            · exact bl_trans hlt h1
            · rw [← h1]; exact hlt
          cases hk : keyIs a.key x with
          | false => rfl
          | true =>
            have : x.key.toList = a.key.toList := by simpa [keyIs] using hk
            rw [this, bl_irr] at hlt2; cases hlt2
    have hv := visIn_spec (seq := seq) hrk hg
    rw [hsplit] at hv
    have hprev : (prev == some a.key.toList) = false := by
      cases hpv : prev with
      | none => rfl
      | some k' =>
        have := hp k' hpv a (List.mem_cons_self ..)
        simpa using fun e => this e.symm
    have hlr : r.length ≤ n := by
      have := congrArg List.length hsplit
      simp at this hn; omega
    have hsr : Srt r := by
      have : Srt ((a :: g) ++ r) := by rw [hsplit]; exact hs
      exact (List.pairwise_append.1 this).2.1
    have ih := vis_group (L := L) (seq := seq) n r (some a.key.toList) hlr hsr (fun y hy => by
      have hyl : y ∈ a :: l := by rw [← hsplit]; exact List.mem_append_right _ hy
      rw [hf y hyl, ← hsplit, List.find?_append]
      have : (a :: g).find? (pk y.key seq) = none := List.find?_eq_none.2 fun x hx => by
        have h1 := hg x hx
        have h2 := hrk y hy
        have e1 : x.key.toList = a.key.toList := by simpa [keyIs] using h1
        have e2 : ¬ y.key.toList = a.key.toList := by simpa [keyIs] using h2
        unfold pk; simp [e1]; intro e; exact absurd e.symm e2
      rw [this]; rfl) (fun k' hk' y hy e => by
        cases hk'
        have h2 := hrk y hy
        unfold keyIs at h2; rw [e] at h2; simp at h2)
    show (visIn seq a.key (a :: l)).1 ++ visF seq n (visIn seq a.key (a :: l)).2 = _
    rw [hv, ih, refG, hprev, hf a (List.mem_cons_self ..)]
    simp only [Bool.false_eq_true, if_false]
    congr 1
    have hl : l = g ++ r := by
      have := hsplit; rw [List.cons_append] at this; exact (List.cons.inj this).2.symm
    rw [hl, refG_same fun x hx => by simpa [keyIs] using hg x (List.mem_cons_of_mem _ hx)]
theorem vis_ref {l : List Ent} (h : Srt l) (seq : Int) : visL l seq = refVisL l seq := by
  rw [ref_refG h]
  exact vis_group l.length l none (Nat.le_refl _) h (fun _ _ => rfl) (fun k' e => by cases e)
end Go.Proofs.Ytdajdembeacefaa.M
set_option linter.unusedSimpArgs false
set_option linter.unusedVariables false
namespace Go.Proofs.Ytdajdembeacefaa.M
open Go.Conc

theorem nm16 : ((Try.f16).name == "runtime.NumGoroutine") = false := by kernel_rfl
theorem nm18 : ((Try.f18).name == "runtime.NumGoroutine") = false := by kernel_rfl
theorem nm19 : ((Try.f19).name == "runtime.NumGoroutine") = false := by kernel_rfl
theorem nm20 : ((Try.f20).name == "runtime.NumGoroutine") = false := by kernel_rfl
theorem nm21 : ((Try.f21).name == "runtime.NumGoroutine") = false := by kernel_rfl
theorem nm22 : ((Try.f22).name == "runtime.NumGoroutine") = false := by kernel_rfl

set_option maxHeartbeats 16000000 in
theorem mergeViews_M {Post : Value → World → Prop} (l0 : List Ent) (v : Value) (n : Int) (bt : Bool) (O : Gh) (w : World) (hv : SlE (ldOf x0 O w) v l0) (hd : O.deaf = 0)
    (hpost : ∀ O' w', Keep O w O' w' → Post (.bool true) w') : Tree P x0 (Will P Post) O (G (Frame.enter P 5 #[v, .int .i64 n, .bool bt] .normal) []) w := by
  rw [enter3 _ _ _ Try.func5 rfl Try.ntmps5 (by decide)]
  have q00 : ((0 : Int) == 0) = true := by decide
  have q60 : ((60 : Int) == 60) = true := by decide
  have qn : (((0 : Nat) : Int) == 0) = true := by decide
  refine t_seq ?_
  refine t_region ?_
  repeat (first
    | (refine t_skG rfl (by decide) rfl ?_)
    | (refine t_skU rfl (by decide) rfl ?_)
    | (first | refine t_rdG (by decide) rfl (by decide) rfl (fun K hK => ?_) | refine t_rd (by decide) (fun K hK => ?_)
       simp only [Xa, Xb, Xc, Xd, Xe, Xf, Xg, Xh, Xi, Xj, Xk, Xl, Xm, Xn, Xo, Xp, Xq, Xr, Xs, Xt, Xu, Xv, Xw, Xx, Xy, Xz, XA, XB, XD, XE, XF, XG, XH, XI, ev, XJ, upd, args1, args2, args3, args4, XK, XL, XM, extL, XN, XO, XP, XQ, XR, XT, XU, XV, XW, XX, XY, XZ, X0, X1, X2, X3, Addr.add, ↓reduceIte, Nat.reduceLT, Nat.reduceEqDiff, Nat.zero_add, Nat.reduceAdd, Option.map_some, X4, List.getElem_toArray, List.getElem_cons_zero, List.getElem_cons_succ]
       refine hK _ ?_
       clear hK K))
  refine t_done ?_
  refine t_seq ?_
  refine t_seq ?_
  refine t_region ?_
  refine t_callA #[] (by decide) Try.func8 nm8 rfl (by simp) ?_
  intro c1 hret
  refine awake_M O w c1 [] hd fun O1 w1 k1 => hret _ O1 w1 ?_
  clear hret
  repeat (first
    | (refine t_skG rfl (by decide) rfl ?_)
    | (refine t_skU rfl (by decide) rfl ?_)
    | (first | refine t_rdG (by decide) rfl (by decide) rfl (fun K hK => ?_) | refine t_rd (by decide) (fun K hK => ?_)
       simp only [Xa, Xb, Xc, Xd, Xe, Xf, Xg, Xh, Xi, Xj, Xk, Xl, Xm, Xn, Xo, Xp, Xq, Xr, Xs, Xt, Xu, Xv, Xw, Xx, Xy, Xz, XA, XB, XD, XE, XF, XG, XH, XI, ev, XJ, upd, args1, args2, args3, args4, XK, XL, XM, extL, XN, XO, XP, XQ, XR, XT, XU, XV, XW, XX, XY, XZ, X0, X1, X2, X3, Addr.add, ↓reduceIte, Nat.reduceLT, Nat.reduceEqDiff, Nat.zero_add, Nat.reduceAdd, Option.map_some, X4, List.getElem_toArray, List.getElem_cons_zero, List.getElem_cons_succ]
       refine hK _ ?_
       clear hK K))
  refine t_done ?_
  refine t_false rfl ?_
  refine t_skip ?_
  have hv1 : SlE (ldOf x0 O1 w1) v l0 := Sl.mono hv k1.know
  refine t_seq ?_
  refine t_region ?_
  iterate 1 (first
    | (refine t_skG rfl (by decide) rfl ?_)
    | (refine t_skU rfl (by decide) rfl ?_)
    | (first | refine t_rdG (by decide) rfl (by decide) rfl (fun K hK => ?_) | refine t_rd (by decide) (fun K hK => ?_)
       simp only [Xa, Xb, Xc, Xd, Xe, Xf, Xg, Xh, Xi, Xj, Xk, Xl, Xm, Xn, Xo, Xp, Xq, Xr, Xs, Xt, Xu, Xv, Xw, Xx, Xy, Xz, XA, XB, XD, XE, XF, XG, XH, XI, ev, XJ, upd, args1, args2, args3, args4, XK, XL, XM, extL, XN, XO, XP, XQ, XR, XT, XU, XV, XW, XX, XY, XZ, X0, X1, X2, X3, Addr.add, ↓reduceIte, Nat.reduceLT, Nat.reduceEqDiff, Nat.zero_add, Nat.reduceAdd, Option.map_some, X4, List.getElem_toArray, List.getElem_cons_zero, List.getElem_cons_succ]
       refine hK _ ?_
       clear hK K))
  refine t_callA #[v] (by decide) Try.func16 nm16 rfl (by simp only [List.map_toArray, List.map_cons, List.map_nil, Xa, Xb, Xc, Xd, Xe, Xf, Xg, Xh, Xi, Xj, Xk, Xl, Xm, Xn, Xo, Xp, Xq, Xr, Xs, Xt, Xu, Xv, Xw, Xx, Xy, Xz, XA, XB, XD, XE, XF, XG, XH, XI, ev, XJ, upd, args1, args2, args3, args4, XK, XL, XM, extL, XN, XO, XP, XQ, XR, XT, XU, XV, XW, XX, XY, XZ, X0, X1, X2, X3, Addr.add, ↓reduceIte, Nat.reduceLT, Nat.reduceEqDiff, Nat.zero_add, Nat.reduceAdd, Option.map_some, X4, List.getElem_toArray, List.getElem_cons_zero, List.getElem_cons_succ]) ?_
  intro c2 hret
  refine one_M l0 v O1 w1 c2 [] hv1 fun O2 w2 m2 s r2 _ _ hb2 => hret _ O2 w2 ?_
  clear hret
  have hs2 : SlE (ldOf x0 O2 w2) s (l0.take 60) := hb2.sl
  have hlen : (l0.take 60).length ≤ 60 := by rw [List.length_take]; omega
  have htt : (l0.take 60).take 60 = l0.take 60 := by rw [List.take_take, Nat.min_self]
  generalize hL : l0.take 60 = l at *
  have k2 := k1.trans r2.keep
  repeat (first
    | (refine t_skG rfl (by decide) rfl ?_)
    | (refine t_skU rfl (by decide) rfl ?_)
    | (first | refine t_rdG (by decide) rfl (by decide) rfl (fun K hK => ?_) | refine t_rd (by decide) (fun K hK => ?_)
       simp only [Xa, Xb, Xc, Xd, Xe, Xf, Xg, Xh, Xi, Xj, Xk, Xl, Xm, Xn, Xo, Xp, Xq, Xr, Xs, Xt, Xu, Xv, Xw, Xx, Xy, Xz, XA, XB, XD, XE, XF, XG, XH, XI, ev, XJ, upd, args1, args2, args3, args4, XK, XL, XM, extL, XN, XO, XP, XQ, XR, XT, XU, XV, XW, XX, XY, XZ, X0, X1, X2, X3, Addr.add, ↓reduceIte, Nat.reduceLT, Nat.reduceEqDiff, Nat.zero_add, Nat.reduceAdd, Option.map_some, X4, List.getElem_toArray, List.getElem_cons_zero, List.getElem_cons_succ]
       refine hK _ ?_
       clear hK K))
  refine t_done ?_
  -- Visible
  refine t_seq ?_
  refine t_region ?_
  iterate 1 (first
    | (refine t_skG rfl (by decide) rfl ?_)
    | (refine t_skU rfl (by decide) rfl ?_)
    | (first | refine t_rdG (by decide) rfl (by decide) rfl (fun K hK => ?_) | refine t_rd (by decide) (fun K hK => ?_)
       simp only [Xa, Xb, Xc, Xd, Xe, Xf, Xg, Xh, Xi, Xj, Xk, Xl, Xm, Xn, Xo, Xp, Xq, Xr, Xs, Xt, Xu, Xv, Xw, Xx, Xy, Xz, XA, XB, XD, XE, XF, XG, XH, XI, ev, XJ, upd, args1, args2, args3, args4, XK, XL, XM, extL, XN, XO, XP, XQ, XR, XT, XU, XV, XW, XX, XY, XZ, X0, X1, X2, X3, Addr.add, ↓reduceIte, Nat.reduceLT, Nat.reduceEqDiff, Nat.zero_add, Nat.reduceAdd, Option.map_some, X4, List.getElem_toArray, List.getElem_cons_zero, List.getElem_cons_succ]
       refine hK _ ?_
       clear hK K))
  refine t_callA #[s] (by decide) Try.func16 nm16 rfl (by simp only [List.map_toArray, List.map_cons, List.map_nil, Xa, Xb, Xc, Xd, Xe, Xf, Xg, Xh, Xi, Xj, Xk, Xl, Xm, Xn, Xo, Xp, Xq, Xr, Xs, Xt, Xu, Xv, Xw, Xx, Xy, Xz, XA, XB, XD, XE, XF, XG, XH, XI, ev, XJ, upd, args1, args2, args3, args4, XK, XL, XM, extL, XN, XO, XP, XQ, XR, XT, XU, XV, XW, XX, XY, XZ, X0, X1, X2, X3, Addr.add, ↓reduceIte, Nat.reduceLT, Nat.reduceEqDiff, Nat.zero_add, Nat.reduceAdd, Option.map_some, X4, List.getElem_toArray, List.getElem_cons_zero, List.getElem_cons_succ]) ?_
  intro c3 hret
  refine one_M l s O2 w2 c3 [] hs2 fun O3 w3 m3 s3 r3 _ _ hb3 => hret _ O3 w3 ?_
  clear hret
  rw [htt] at hb3
  have hs3 : SlE (ldOf x0 O3 w3) s3 l := hb3.sl
  have hs23 := hs2.rely r3
  iterate 1 (first
    | (refine t_skG rfl (by decide) rfl ?_)
    | (refine t_skU rfl (by decide) rfl ?_)
    | (first | refine t_rdG (by decide) rfl (by decide) rfl (fun K hK => ?_) | refine t_rd (by decide) (fun K hK => ?_)
       simp only [Xa, Xb, Xc, Xd, Xe, Xf, Xg, Xh, Xi, Xj, Xk, Xl, Xm, Xn, Xo, Xp, Xq, Xr, Xs, Xt, Xu, Xv, Xw, Xx, Xy, Xz, XA, XB, XD, XE, XF, XG, XH, XI, ev, XJ, upd, args1, args2, args3, args4, XK, XL, XM, extL, XN, XO, XP, XQ, XR, XT, XU, XV, XW, XX, XY, XZ, X0, X1, X2, X3, Addr.add, ↓reduceIte, Nat.reduceLT, Nat.reduceEqDiff, Nat.zero_add, Nat.reduceAdd, Option.map_some, X4, List.getElem_toArray, List.getElem_cons_zero, List.getElem_cons_succ]
       refine hK _ ?_
       clear hK K))
  refine t_callA #[s3, .int .i64 n] (by decide) Try.func17 nm17 rfl (by simp only [List.map_toArray, List.map_cons, List.map_nil, Xa, Xb, Xc, Xd, Xe, Xf, Xg, Xh, Xi, Xj, Xk, Xl, Xm, Xn, Xo, Xp, Xq, Xr, Xs, Xt, Xu, Xv, Xw, Xx, Xy, Xz, XA, XB, XD, XE, XF, XG, XH, XI, ev, XJ, upd, args1, args2, args3, args4, XK, XL, XM, extL, XN, XO, XP, XQ, XR, XT, XU, XV, XW, XX, XY, XZ, X0, X1, X2, X3, Addr.add, ↓reduceIte, Nat.reduceLT, Nat.reduceEqDiff, Nat.zero_add, Nat.reduceAdd, Option.map_some, X4, List.getElem_toArray, List.getElem_cons_zero, List.getElem_cons_succ]) ?_
  intro c4 hret
  cases ho : ordL l with
  | false =>
    refine Visible_M l s3 n O3 w3 c4 [] hs3 (by omega) (fun h => by rw [ho] at h; cases h) (fun _ O4 w4 r4 => hret _ O4 w4 ?_)
    clear hret
    have hs4 := hs23.rely r4
    repeat (first
      | (refine t_skG rfl (by decide) rfl ?_)
      | (refine t_skU rfl (by decide) rfl ?_)
      | (first | refine t_rdG (by decide) rfl (by decide) rfl (fun K hK => ?_) | refine t_rd (by decide) (fun K hK => ?_)
         simp only [Xa, Xb, Xc, Xd, Xe, Xf, Xg, Xh, Xi, Xj, Xk, Xl, Xm, Xn, Xo, Xp, Xq, Xr, Xs, Xt, Xu, Xv, Xw, Xx, Xy, Xz, XA, XB, XD, XE, XF, XG, XH, XI, ev, XJ, upd, args1, args2, args3, args4, XK, XL, XM, extL, XN, XO, XP, XQ, XR, XT, XU, XV, XW, XX, XY, XZ, X0, X1, X2, X3, Addr.add, ↓reduceIte, Nat.reduceLT, Nat.reduceEqDiff, Nat.zero_add, Nat.reduceAdd, Option.map_some, X4, List.getElem_toArray, List.getElem_cons_zero, List.getElem_cons_succ]
         refine hK _ ?_
         clear hK K))
    refine t_done ?_
    refine t_seq ?_
    refine t_region ?_
    iterate 1 (first
      | (refine t_skG rfl (by decide) rfl ?_)
      | (refine t_skU rfl (by decide) rfl ?_)
      | (first | refine t_rdG (by decide) rfl (by decide) rfl (fun K hK => ?_) | refine t_rd (by decide) (fun K hK => ?_)
         simp only [Xa, Xb, Xc, Xd, Xe, Xf, Xg, Xh, Xi, Xj, Xk, Xl, Xm, Xn, Xo, Xp, Xq, Xr, Xs, Xt, Xu, Xv, Xw, Xx, Xy, Xz, XA, XB, XD, XE, XF, XG, XH, XI, ev, XJ, upd, args1, args2, args3, args4, XK, XL, XM, extL, XN, XO, XP, XQ, XR, XT, XU, XV, XW, XX, XY, XZ, X0, X1, X2, X3, Addr.add, ↓reduceIte, Nat.reduceLT, Nat.reduceEqDiff, Nat.zero_add, Nat.reduceAdd, Option.map_some, X4, List.getElem_toArray, List.getElem_cons_zero, List.getElem_cons_succ]
         refine hK _ ?_
         clear hK K))
    refine t_callA #[s] (by decide) Try.func16 nm16 rfl (by simp only [List.map_toArray, List.map_cons, List.map_nil, Xa, Xb, Xc, Xd, Xe, Xf, Xg, Xh, Xi, Xj, Xk, Xl, Xm, Xn, Xo, Xp, Xq, Xr, Xs, Xt, Xu, Xv, Xw, Xx, Xy, Xz, XA, XB, XD, XE, XF, XG, XH, XI, ev, XJ, upd, args1, args2, args3, args4, XK, XL, XM, extL, XN, XO, XP, XQ, XR, XT, XU, XV, XW, XX, XY, XZ, X0, X1, X2, X3, Addr.add, ↓reduceIte, Nat.reduceLT, Nat.reduceEqDiff, Nat.zero_add, Nat.reduceAdd, Option.map_some, X4, List.getElem_toArray, List.getElem_cons_zero, List.getElem_cons_succ]) ?_
    intro c5 hret
    refine one_M l s O4 w4 c5 [] hs4 fun O5 w5 m5 s5 r5 _ _ hb5 => hret _ O5 w5 ?_
    clear hret
    rw [htt] at hb5
    have hs5 : SlE (ldOf x0 O5 w5) s5 l := hb5.sl
    iterate 2 (first
      | (refine t_skG rfl (by decide) rfl ?_)
      | (refine t_skU rfl (by decide) rfl ?_)
      | (first | refine t_rdG (by decide) rfl (by decide) rfl (fun K hK => ?_) | refine t_rd (by decide) (fun K hK => ?_)
         simp only [Xa, Xb, Xc, Xd, Xe, Xf, Xg, Xh, Xi, Xj, Xk, Xl, Xm, Xn, Xo, Xp, Xq, Xr, Xs, Xt, Xu, Xv, Xw, Xx, Xy, Xz, XA, XB, XD, XE, XF, XG, XH, XI, ev, XJ, upd, args1, args2, args3, args4, XK, XL, XM, extL, XN, XO, XP, XQ, XR, XT, XU, XV, XW, XX, XY, XZ, X0, X1, X2, X3, Addr.add, ↓reduceIte, Nat.reduceLT, Nat.reduceEqDiff, Nat.zero_add, Nat.reduceAdd, Option.map_some, X4, List.getElem_toArray, List.getElem_cons_zero, List.getElem_cons_succ]
         refine hK _ ?_
         clear hK K))
    refine t_callA #[s5, .int .i64 n, .bool bt] (by decide) Try.func18 nm18 rfl (by simp only [List.map_toArray, List.map_cons, List.map_nil, Xa, Xb, Xc, Xd, Xe, Xf, Xg, Xh, Xi, Xj, Xk, Xl, Xm, Xn, Xo, Xp, Xq, Xr, Xs, Xt, Xu, Xv, Xw, Xx, Xy, Xz, XA, XB, XD, XE, XF, XG, XH, XI, ev, XJ, upd, args1, args2, args3, args4, XK, XL, XM, extL, XN, XO, XP, XQ, XR, XT, XU, XV, XW, XX, XY, XZ, X0, X1, X2, X3, Addr.add, ↓reduceIte, Nat.reduceLT, Nat.reduceEqDiff, Nat.zero_add, Nat.reduceAdd, Option.map_some, X4, List.getElem_toArray, List.getElem_cons_zero, List.getElem_cons_succ]) ?_
    intro c6 hret
    refine Compact_M l s5 n bt O5 w5 c6 [] hs5 (by omega) (fun h => by rw [ho] at h; cases h) (fun _ O6 w6 r6 => hret _ O6 w6 ?_)
    clear hret
    have hs6 := (hs4.rely r5).rely r6
    repeat (first
      | (refine t_skG rfl (by decide) rfl ?_)
      | (refine t_skU rfl (by decide) rfl ?_)
      | (first | refine t_rdG (by decide) rfl (by decide) rfl (fun K hK => ?_) | refine t_rd (by decide) (fun K hK => ?_)
         simp only [Xa, Xb, Xc, Xd, Xe, Xf, Xg, Xh, Xi, Xj, Xk, Xl, Xm, Xn, Xo, Xp, Xq, Xr, Xs, Xt, Xu, Xv, Xw, Xx, Xy, Xz, XA, XB, XD, XE, XF, XG, XH, XI, ev, XJ, upd, args1, args2, args3, args4, XK, XL, XM, extL, XN, XO, XP, XQ, XR, XT, XU, XV, XW, XX, XY, XZ, X0, X1, X2, X3, Addr.add, ↓reduceIte, Nat.reduceLT, Nat.reduceEqDiff, Nat.zero_add, Nat.reduceAdd, Option.map_some, X4, List.getElem_toArray, List.getElem_cons_zero, List.getElem_cons_succ]
         refine hK _ ?_
         clear hK K))
    refine t_done ?_
    refine t_seq ?_
    refine t_seq ?_
    refine t_region ?_
    iterate 1 (first
      | (refine t_skG rfl (by decide) rfl ?_)
      | (refine t_skU rfl (by decide) rfl ?_)
      | (first | refine t_rdG (by decide) rfl (by decide) rfl (fun K hK => ?_) | refine t_rd (by decide) (fun K hK => ?_)
         simp only [Xa, Xb, Xc, Xd, Xe, Xf, Xg, Xh, Xi, Xj, Xk, Xl, Xm, Xn, Xo, Xp, Xq, Xr, Xs, Xt, Xu, Xv, Xw, Xx, Xy, Xz, XA, XB, XD, XE, XF, XG, XH, XI, ev, XJ, upd, args1, args2, args3, args4, XK, XL, XM, extL, XN, XO, XP, XQ, XR, XT, XU, XV, XW, XX, XY, XZ, X0, X1, X2, X3, Addr.add, ↓reduceIte, Nat.reduceLT, Nat.reduceEqDiff, Nat.zero_add, Nat.reduceAdd, Option.map_some, X4, List.getElem_toArray, List.getElem_cons_zero, List.getElem_cons_succ]
         refine hK _ ?_
         clear hK K))
    refine t_callA #[s] (by decide) Try.func19 nm19 rfl (by simp only [List.map_toArray, List.map_cons, List.map_nil, Xa, Xb, Xc, Xd, Xe, Xf, Xg, Xh, Xi, Xj, Xk, Xl, Xm, Xn, Xo, Xp, Xq, Xr, Xs, Xt, Xu, Xv, Xw, Xx, Xy, Xz, XA, XB, XD, XE, XF, XG, XH, XI, ev, XJ, upd, args1, args2, args3, args4, XK, XL, XM, extL, XN, XO, XP, XQ, XR, XT, XU, XV, XW, XX, XY, XZ, X0, X1, X2, X3, Addr.add, ↓reduceIte, Nat.reduceLT, Nat.reduceEqDiff, Nat.zero_add, Nat.reduceAdd, Option.map_some, X4, List.getElem_toArray, List.getElem_cons_zero, List.getElem_cons_succ]) ?_
    intro c7 hret
    refine Ordered_M l s O6 w6 c7 [] hs6 (by omega) fun O7 w7 r7 => hret _ O7 w7 ?_
    clear hret
    rw [ho]
    repeat (first
      | (refine t_skG rfl (by decide) rfl ?_)
      | (refine t_skU rfl (by decide) rfl ?_)
      | (first | refine t_rdG (by decide) rfl (by decide) rfl (fun K hK => ?_) | refine t_rd (by decide) (fun K hK => ?_)
         simp only [Xa, Xb, Xc, Xd, Xe, Xf, Xg, Xh, Xi, Xj, Xk, Xl, Xm, Xn, Xo, Xp, Xq, Xr, Xs, Xt, Xu, Xv, Xw, Xx, Xy, Xz, XA, XB, XD, XE, XF, XG, XH, XI, ev, XJ, upd, args1, args2, args3, args4, XK, XL, XM, extL, XN, XO, XP, XQ, XR, XT, XU, XV, XW, XX, XY, XZ, X0, X1, X2, X3, Addr.add, ↓reduceIte, Nat.reduceLT, Nat.reduceEqDiff, Nat.zero_add, Nat.reduceAdd, Option.map_some, X4, List.getElem_toArray, List.getElem_cons_zero, List.getElem_cons_succ]
         refine hK _ ?_
         clear hK K))
    refine t_done ?_
    refine t_true rfl ?_
    refine t_seq ?_
    refine t_region ?_
    repeat (first
      | (refine t_skG rfl (by decide) rfl ?_)
      | (refine t_skU rfl (by decide) rfl ?_)
      | (first | refine t_rdG (by decide) rfl (by decide) rfl (fun K hK => ?_) | refine t_rd (by decide) (fun K hK => ?_)
         simp only [Xa, Xb, Xc, Xd, Xe, Xf, Xg, Xh, Xi, Xj, Xk, Xl, Xm, Xn, Xo, Xp, Xq, Xr, Xs, Xt, Xu, Xv, Xw, Xx, Xy, Xz, XA, XB, XD, XE, XF, XG, XH, XI, ev, XJ, upd, args1, args2, args3, args4, XK, XL, XM, extL, XN, XO, XP, XQ, XR, XT, XU, XV, XW, XX, XY, XZ, X0, X1, X2, X3, Addr.add, ↓reduceIte, Nat.reduceLT, Nat.reduceEqDiff, Nat.zero_add, Nat.reduceAdd, Option.map_some, X4, List.getElem_toArray, List.getElem_cons_zero, List.getElem_cons_succ, q60, qn, q00]
         refine hK _ ?_
         clear hK K))
    refine t_done ?_
    refine t_ret ?_
    have ka := k2.trans (((((r3.trans r4).trans r5).trans r6).trans r7).keep)
    exact t_final Try.func5 rfl (by decide) rfl (ka.deaf.trans hd) fun Ob wb rb => hpost Ob wb (ka.trans rb.keep)
  | true =>
    have hsrt := ordL_srt ho
    refine Visible_M l s3 n O3 w3 c4 [] hs3 (by omega) (fun _ O4 w4 m4 s4 r4 hb4 => hret _ O4 w4 ?_) (fun h => by rw [ho] at h; cases h)
    clear hret
    rw [vis_ref hsrt] at hb4
    have hp4 : SlP (ldOf x0 O4 w4) s4 (refVisL l n) := hb4.sl
    have hs4 := hs23.rely r4
    repeat (first
      | (refine t_skG rfl (by decide) rfl ?_)
      | (refine t_skU rfl (by decide) rfl ?_)
      | (first | refine t_rdG (by decide) rfl (by decide) rfl (fun K hK => ?_) | refine t_rd (by decide) (fun K hK => ?_)
         simp only [Xa, Xb, Xc, Xd, Xe, Xf, Xg, Xh, Xi, Xj, Xk, Xl, Xm, Xn, Xo, Xp, Xq, Xr, Xs, Xt, Xu, Xv, Xw, Xx, Xy, Xz, XA, XB, XD, XE, XF, XG, XH, XI, ev, XJ, upd, args1, args2, args3, args4, XK, XL, XM, extL, XN, XO, XP, XQ, XR, XT, XU, XV, XW, XX, XY, XZ, X0, X1, X2, X3, Addr.add, ↓reduceIte, Nat.reduceLT, Nat.reduceEqDiff, Nat.zero_add, Nat.reduceAdd, Option.map_some, X4, List.getElem_toArray, List.getElem_cons_zero, List.getElem_cons_succ]
         refine hK _ ?_
         clear hK K))
    refine t_done ?_
    refine t_seq ?_
    refine t_region ?_
    iterate 1 (first
      | (refine t_skG rfl (by decide) rfl ?_)
      | (refine t_skU rfl (by decide) rfl ?_)
      | (first | refine t_rdG (by decide) rfl (by decide) rfl (fun K hK => ?_) | refine t_rd (by decide) (fun K hK => ?_)
         simp only [Xa, Xb, Xc, Xd, Xe, Xf, Xg, Xh, Xi, Xj, Xk, Xl, Xm, Xn, Xo, Xp, Xq, Xr, Xs, Xt, Xu, Xv, Xw, Xx, Xy, Xz, XA, XB, XD, XE, XF, XG, XH, XI, ev, XJ, upd, args1, args2, args3, args4, XK, XL, XM, extL, XN, XO, XP, XQ, XR, XT, XU, XV, XW, XX, XY, XZ, X0, X1, X2, X3, Addr.add, ↓reduceIte, Nat.reduceLT, Nat.reduceEqDiff, Nat.zero_add, Nat.reduceAdd, Option.map_some, X4, List.getElem_toArray, List.getElem_cons_zero, List.getElem_cons_succ]
         refine hK _ ?_
         clear hK K))
    refine t_callA #[s] (by decide) Try.func16 nm16 rfl (by simp only [List.map_toArray, List.map_cons, List.map_nil, Xa, Xb, Xc, Xd, Xe, Xf, Xg, Xh, Xi, Xj, Xk, Xl, Xm, Xn, Xo, Xp, Xq, Xr, Xs, Xt, Xu, Xv, Xw, Xx, Xy, Xz, XA, XB, XD, XE, XF, XG, XH, XI, ev, XJ, upd, args1, args2, args3, args4, XK, XL, XM, extL, XN, XO, XP, XQ, XR, XT, XU, XV, XW, XX, XY, XZ, X0, X1, X2, X3, Addr.add, ↓reduceIte, Nat.reduceLT, Nat.reduceEqDiff, Nat.zero_add, Nat.reduceAdd, Option.map_some, X4, List.getElem_toArray, List.getElem_cons_zero, List.getElem_cons_succ]) ?_
    intro c5 hret
    refine one_M l s O4 w4 c5 [] hs4 fun O5 w5 m5 s5 r5 _ _ hb5 => hret _ O5 w5 ?_
    clear hret
    rw [htt] at hb5
    have hs5 : SlE (ldOf x0 O5 w5) s5 l := hb5.sl
    iterate 2 (first
      | (refine t_skG rfl (by decide) rfl ?_)
      | (refine t_skU rfl (by decide) rfl ?_)
      | (first | refine t_rdG (by decide) rfl (by decide) rfl (fun K hK => ?_) | refine t_rd (by decide) (fun K hK => ?_)
         simp only [Xa, Xb, Xc, Xd, Xe, Xf, Xg, Xh, Xi, Xj, Xk, Xl, Xm, Xn, Xo, Xp, Xq, Xr, Xs, Xt, Xu, Xv, Xw, Xx, Xy, Xz, XA, XB, XD, XE, XF, XG, XH, XI, ev, XJ, upd, args1, args2, args3, args4, XK, XL, XM, extL, XN, XO, XP, XQ, XR, XT, XU, XV, XW, XX, XY, XZ, X0, X1, X2, X3, Addr.add, ↓reduceIte, Nat.reduceLT, Nat.reduceEqDiff, Nat.zero_add, Nat.reduceAdd, Option.map_some, X4, List.getElem_toArray, List.getElem_cons_zero, List.getElem_cons_succ]
         refine hK _ ?_
         clear hK K))
    refine t_callA #[s5, .int .i64 n, .bool bt] (by decide) Try.func18 nm18 rfl (by simp only [List.map_toArray, List.map_cons, List.map_nil, Xa, Xb, Xc, Xd, Xe, Xf, Xg, Xh, Xi, Xj, Xk, Xl, Xm, Xn, Xo, Xp, Xq, Xr, Xs, Xt, Xu, Xv, Xw, Xx, Xy, Xz, XA, XB, XD, XE, XF, XG, XH, XI, ev, XJ, upd, args1, args2, args3, args4, XK, XL, XM, extL, XN, XO, XP, XQ, XR, XT, XU, XV, XW, XX, XY, XZ, X0, X1, X2, X3, Addr.add, ↓reduceIte, Nat.reduceLT, Nat.reduceEqDiff, Nat.zero_add, Nat.reduceAdd, Option.map_some, X4, List.getElem_toArray, List.getElem_cons_zero, List.getElem_cons_succ]) ?_
    intro c6 hret
    refine Compact_M l s5 n bt O5 w5 c6 [] hs5 (by omega) (fun _ O6 w6 m6 s6 r6 hb6 _ => hret _ O6 w6 ?_) (fun h => by rw [ho] at h; cases h)
    clear hret
    rw [comp_ref hsrt] at hb6
    have hc6 : SlE (ldOf x0 O6 w6) s6 (refCompL l n bt) := hb6.sl
    have hp6 := Sl.rely (Sl.rely hp4 r5) r6
    have hs6 := (hs4.rely r5).rely r6
    repeat (first
      | (refine t_skG rfl (by decide) rfl ?_)
      | (refine t_skU rfl (by decide) rfl ?_)
      | (first | refine t_rdG (by decide) rfl (by decide) rfl (fun K hK => ?_) | refine t_rd (by decide) (fun K hK => ?_)
         simp only [Xa, Xb, Xc, Xd, Xe, Xf, Xg, Xh, Xi, Xj, Xk, Xl, Xm, Xn, Xo, Xp, Xq, Xr, Xs, Xt, Xu, Xv, Xw, Xx, Xy, Xz, XA, XB, XD, XE, XF, XG, XH, XI, ev, XJ, upd, args1, args2, args3, args4, XK, XL, XM, extL, XN, XO, XP, XQ, XR, XT, XU, XV, XW, XX, XY, XZ, X0, X1, X2, X3, Addr.add, ↓reduceIte, Nat.reduceLT, Nat.reduceEqDiff, Nat.zero_add, Nat.reduceAdd, Option.map_some, X4, List.getElem_toArray, List.getElem_cons_zero, List.getElem_cons_succ]
         refine hK _ ?_
         clear hK K))
    refine t_done ?_
    refine t_seq ?_
    refine t_seq ?_
    refine t_region ?_
    iterate 1 (first
      | (refine t_skG rfl (by decide) rfl ?_)
      | (refine t_skU rfl (by decide) rfl ?_)
      | (first | refine t_rdG (by decide) rfl (by decide) rfl (fun K hK => ?_) | refine t_rd (by decide) (fun K hK => ?_)
         simp only [Xa, Xb, Xc, Xd, Xe, Xf, Xg, Xh, Xi, Xj, Xk, Xl, Xm, Xn, Xo, Xp, Xq, Xr, Xs, Xt, Xu, Xv, Xw, Xx, Xy, Xz, XA, XB, XD, XE, XF, XG, XH, XI, ev, XJ, upd, args1, args2, args3, args4, XK, XL, XM, extL, XN, XO, XP, XQ, XR, XT, XU, XV, XW, XX, XY, XZ, X0, X1, X2, X3, Addr.add, ↓reduceIte, Nat.reduceLT, Nat.reduceEqDiff, Nat.zero_add, Nat.reduceAdd, Option.map_some, X4, List.getElem_toArray, List.getElem_cons_zero, List.getElem_cons_succ]
         refine hK _ ?_
         clear hK K))
    refine t_callA #[s] (by decide) Try.func19 nm19 rfl (by simp only [List.map_toArray, List.map_cons, List.map_nil, Xa, Xb, Xc, Xd, Xe, Xf, Xg, Xh, Xi, Xj, Xk, Xl, Xm, Xn, Xo, Xp, Xq, Xr, Xs, Xt, Xu, Xv, Xw, Xx, Xy, Xz, XA, XB, XD, XE, XF, XG, XH, XI, ev, XJ, upd, args1, args2, args3, args4, XK, XL, XM, extL, XN, XO, XP, XQ, XR, XT, XU, XV, XW, XX, XY, XZ, X0, X1, X2, X3, Addr.add, ↓reduceIte, Nat.reduceLT, Nat.reduceEqDiff, Nat.zero_add, Nat.reduceAdd, Option.map_some, X4, List.getElem_toArray, List.getElem_cons_zero, List.getElem_cons_succ]) ?_
    intro c7 hret
    refine Ordered_M l s O6 w6 c7 [] hs6 (by omega) fun O7 w7 r7 => hret _ O7 w7 ?_
    clear hret
    rw [ho]
    repeat (first
      | (refine t_skG rfl (by decide) rfl ?_)
      | (refine t_skU rfl (by decide) rfl ?_)
      | (first | refine t_rdG (by decide) rfl (by decide) rfl (fun K hK => ?_) | refine t_rd (by decide) (fun K hK => ?_)
         simp only [Xa, Xb, Xc, Xd, Xe, Xf, Xg, Xh, Xi, Xj, Xk, Xl, Xm, Xn, Xo, Xp, Xq, Xr, Xs, Xt, Xu, Xv, Xw, Xx, Xy, Xz, XA, XB, XD, XE, XF, XG, XH, XI, ev, XJ, upd, args1, args2, args3, args4, XK, XL, XM, extL, XN, XO, XP, XQ, XR, XT, XU, XV, XW, XX, XY, XZ, X0, X1, X2, X3, Addr.add, ↓reduceIte, Nat.reduceLT, Nat.reduceEqDiff, Nat.zero_add, Nat.reduceAdd, Option.map_some, X4, List.getElem_toArray, List.getElem_cons_zero, List.getElem_cons_succ]
         refine hK _ ?_
         clear hK K))
    refine t_done ?_
    refine t_false rfl ?_
    refine t_skip ?_
    have hp7 := Sl.rely hp6 r7
    have hc7 := hc6.rely r7
    have hs7 := hs6.rely r7
    have vlen : (refVisL l n).length ≤ l.length := sumUp_len (refVisAt_len l n) _
    have clen : (refCompL l n bt).length ≤ l.length := List.length_filter_le _ _
    refine t_seq ?_
    refine t_region ?_
    iterate 10 (first
      | (refine t_skG rfl (by decide) rfl ?_)
      | (refine t_skU rfl (by decide) rfl ?_)
      | (first | refine t_rdG (by decide) rfl (by decide) rfl (fun K hK => ?_) | refine t_rd (by decide) (fun K hK => ?_)
         simp only [Xa, Xb, Xc, Xd, Xe, Xf, Xg, Xh, Xi, Xj, Xk, Xl, Xm, Xn, Xo, Xp, Xq, Xr, Xs, Xt, Xu, Xv, Xw, Xx, Xy, Xz, XA, XB, XD, XE, XF, XG, XH, XI, ev, XJ, upd, args1, args2, args3, args4, XK, XL, XM, extL, XN, XO, XP, XQ, XR, XT, XU, XV, XW, XX, XY, XZ, X0, X1, X2, X3, Addr.add, ↓reduceIte, Nat.reduceLT, Nat.reduceEqDiff, Nat.zero_add, Nat.reduceAdd, Option.map_some, X4, List.getElem_toArray, List.getElem_cons_zero, List.getElem_cons_succ, q00]
         refine hK _ ?_
         clear hK K))
    refine t_callG #[s, .int .i64 n] (by decide) rfl (by decide) rfl Try.func21 nm21 rfl (by simp only [List.map_toArray, List.map_cons, List.map_nil, Xa, Xb, Xc, Xd, Xe, Xf, Xg, Xh, Xi, Xj, Xk, Xl, Xm, Xn, Xo, Xp, Xq, Xr, Xs, Xt, Xu, Xv, Xw, Xx, Xy, Xz, XA, XB, XD, XE, XF, XG, XH, XI, ev, XJ, upd, args1, args2, args3, args4, XK, XL, XM, extL, XN, XO, XP, XQ, XR, XT, XU, XV, XW, XX, XY, XZ, X0, X1, X2, X3, Addr.add, ↓reduceIte, Nat.reduceLT, Nat.reduceEqDiff, Nat.zero_add, Nat.reduceAdd, Option.map_some, X4, List.getElem_toArray, List.getElem_cons_zero, List.getElem_cons_succ]) ?_
    intro c8 hret
    refine refVisible_M l s n O7 w7 c8 [] hs7 (by omega) fun O8 w8 m8 s8 r8 hb8 => hret _ O8 w8 ?_
    clear hret
    have hp8 : SlP (ldOf x0 O8 w8) s8 (refVisL l n) := hb8.sl
    refine t_callG #[s4, s8] (by decide) rfl (by decide) rfl Try.func20 nm20 rfl (by simp only [List.map_toArray, List.map_cons, List.map_nil, Xa, Xb, Xc, Xd, Xe, Xf, Xg, Xh, Xi, Xj, Xk, Xl, Xm, Xn, Xo, Xp, Xq, Xr, Xs, Xt, Xu, Xv, Xw, Xx, Xy, Xz, XA, XB, XD, XE, XF, XG, XH, XI, ev, XJ, upd, args1, args2, args3, args4, XK, XL, XM, extL, XN, XO, XP, XQ, XR, XT, XU, XV, XW, XX, XY, XZ, X0, X1, X2, X3, Addr.add, ↓reduceIte, Nat.reduceLT, Nat.reduceEqDiff, Nat.zero_add, Nat.reduceAdd, Option.map_some, X4, List.getElem_toArray, List.getElem_cons_zero, List.getElem_cons_succ]) ?_
    intro c9 hret
    refine SamePairs_M (refVisL l n) (refVisL l n) s4 s8 O8 w8 c9 [] (Sl.rely hp7 r8) hp8 (by omega) fun O9 w9 r9 => hret _ O9 w9 ?_
    clear hret
    rw [sameL_self]
    iterate 6 (first
      | (refine t_skG rfl (by decide) rfl ?_)
      | (refine t_skU rfl (by decide) rfl ?_)
      | (first | refine t_rdG (by decide) rfl (by decide) rfl (fun K hK => ?_) | refine t_rd (by decide) (fun K hK => ?_)
         simp only [Xa, Xb, Xc, Xd, Xe, Xf, Xg, Xh, Xi, Xj, Xk, Xl, Xm, Xn, Xo, Xp, Xq, Xr, Xs, Xt, Xu, Xv, Xw, Xx, Xy, Xz, XA, XB, XD, XE, XF, XG, XH, XI, ev, XJ, upd, args1, args2, args3, args4, XK, XL, XM, extL, XN, XO, XP, XQ, XR, XT, XU, XV, XW, XX, XY, XZ, X0, X1, X2, X3, Addr.add, ↓reduceIte, Nat.reduceLT, Nat.reduceEqDiff, Nat.zero_add, Nat.reduceAdd, Option.map_some, X4, List.getElem_toArray, List.getElem_cons_zero, List.getElem_cons_succ]
         refine hK _ ?_
         clear hK K))
    refine t_callG #[s, .int .i64 n, .bool bt] (by decide) rfl (by decide) rfl Try.func22 nm22 rfl (by simp only [List.map_toArray, List.map_cons, List.map_nil, Xa, Xb, Xc, Xd, Xe, Xf, Xg, Xh, Xi, Xj, Xk, Xl, Xm, Xn, Xo, Xp, Xq, Xr, Xs, Xt, Xu, Xv, Xw, Xx, Xy, Xz, XA, XB, XD, XE, XF, XG, XH, XI, ev, XJ, upd, args1, args2, args3, args4, XK, XL, XM, extL, XN, XO, XP, XQ, XR, XT, XU, XV, XW, XX, XY, XZ, X0, X1, X2, X3, Addr.add, ↓reduceIte, Nat.reduceLT, Nat.reduceEqDiff, Nat.zero_add, Nat.reduceAdd, Option.map_some, X4, List.getElem_toArray, List.getElem_cons_zero, List.getElem_cons_succ]) ?_
    intro ca hret
    refine refCompact_M l s n bt O9 w9 ca [] ((hs7.rely r8).rely r9) (by omega) fun Oa wa ma sa ra hba => hret _ Oa wa ?_
    clear hret
    have hca : SlE (ldOf x0 Oa wa) sa (refCompL l n bt) := hba.sl
    refine t_callG #[s6, sa] (by decide) rfl (by decide) rfl Try.func14 nm14 rfl (by simp only [List.map_toArray, List.map_cons, List.map_nil, Xa, Xb, Xc, Xd, Xe, Xf, Xg, Xh, Xi, Xj, Xk, Xl, Xm, Xn, Xo, Xp, Xq, Xr, Xs, Xt, Xu, Xv, Xw, Xx, Xy, Xz, XA, XB, XD, XE, XF, XG, XH, XI, ev, XJ, upd, args1, args2, args3, args4, XK, XL, XM, extL, XN, XO, XP, XQ, XR, XT, XU, XV, XW, XX, XY, XZ, X0, X1, X2, X3, Addr.add, ↓reduceIte, Nat.reduceLT, Nat.reduceEqDiff, Nat.zero_add, Nat.reduceAdd, Option.map_some, X4, List.getElem_toArray, List.getElem_cons_zero, List.getElem_cons_succ]) ?_
    intro cb hret
    refine Same_M (refCompL l n bt) (refCompL l n bt) s6 sa Oa wa cb [] (((hc7.rely r8).rely r9).rely ra) hca (by omega) fun Ob wb rb => hret _ Ob wb ?_
    clear hret
    rw [sameL_self]
    repeat (first
      | (refine t_skG rfl (by decide) rfl ?_)
      | (refine t_skU rfl (by decide) rfl ?_)
      | (first | refine t_rdG (by decide) rfl (by decide) rfl (fun K hK => ?_) | refine t_rd (by decide) (fun K hK => ?_)
         simp only [Xa, Xb, Xc, Xd, Xe, Xf, Xg, Xh, Xi, Xj, Xk, Xl, Xm, Xn, Xo, Xp, Xq, Xr, Xs, Xt, Xu, Xv, Xw, Xx, Xy, Xz, XA, XB, XD, XE, XF, XG, XH, XI, ev, XJ, upd, args1, args2, args3, args4, XK, XL, XM, extL, XN, XO, XP, XQ, XR, XT, XU, XV, XW, XX, XY, XZ, X0, X1, X2, X3, Addr.add, ↓reduceIte, Nat.reduceLT, Nat.reduceEqDiff, Nat.zero_add, Nat.reduceAdd, Option.map_some, X4, List.getElem_toArray, List.getElem_cons_zero, List.getElem_cons_succ]
         refine hK _ ?_
         clear hK K))
    refine t_done ?_
    refine t_ret ?_
    have kz := k2.trans (((((((((r3.trans r4).trans r5).trans r6).trans r7).trans r8).trans r9).trans ra).trans rb).keep)
    exact t_final Try.func5 rfl (by decide) rfl (kz.deaf.trans hd) fun Oc wc rc => hpost Oc wc (kz.trans rc.keep)
end Go.Proofs.Ytdajdembeacefaa.M

/-
  THE LAW MergeParts, walked: it answers true.
-/
import Derived.Test.YtdajdembeacefaaBC
set_option linter.unusedSimpArgs false
set_option linter.unusedVariables false
namespace Go.Proofs.Ytdajdembeacefaa.M
open Go.Conc

/-! ### the plain law -/
theorem find_ref (ls : List (List Ent)) (e : Ent) : (refMergeL ls).find? (fun x => keq x e) = ls.flatten.find? (fun x => keq x e) := by
  obtain ⟨h1, h2⟩ := refMerge_spec ls
  have hp : ∀ {a : Ent}, keq a e = true → (fun x : Ent => keq x a) = fun x => keq x e := fun {a} h => by
    funext x
    cases hx : keq x e with
    | true => exact keq_trans hx (keq_symm h)
    | false =>
      cases hy : keq x a with
      | false => rfl
      | true => rw [keq_trans hy h] at hx; cases hx
  cases hf : ls.flatten.find? (fun x => keq x e) with
  | none =>
    rw [List.find?_eq_none] at hf ⊢
    exact fun x hx => hf x (isFst_mem ((h2 x).1 hx))
  | some a =>
    have hk : keq a e = true := List.find?_some (p := fun x => keq x e) hf
    have ha : a ∈ refMergeL ls := (h2 a).2 (by unfold isFst; rw [hp hk]; exact hf)
    cases hg : (refMergeL ls).find? (fun x => keq x e) with
    | none => rw [List.find?_eq_none] at hg; exact absurd hk (hg a ha)
    | some b =>
      have hkb : keq b e = true := List.find?_some (p := fun x => keq x e) hg
      have hb := (h2 b).1 (List.mem_of_find?_eq_some hg)
      unfold isFst at hb
      rw [hp hkb, hf] at hb
      exact hb.symm
theorem parts_ref (ls : List (List Ent)) (k : Nat) : refMergeL [[], refMergeL (ls.take k), [], refMergeL (ls.drop k)] = refMergeL ls := by
  obtain ⟨h1, h2⟩ := refMerge_spec [[], refMergeL (ls.take k), [], refMergeL (ls.drop k)]
  obtain ⟨h3, h4⟩ := refMerge_spec ls
  refine srt_unique h1 h3 fun e => ?_
  rw [h2 e, h4 e]
  have : ([[], refMergeL (ls.take k), [], refMergeL (ls.drop k)] : List (List Ent)).flatten = refMergeL (ls.take k) ++ refMergeL (ls.drop k) := by simp
  unfold isFst
  rw [this, List.find?_append, find_ref, find_ref, ← List.find?_append, ← List.flatten_append, List.take_append_drop]
theorem good_sub {ls ls' : List (List Ent)} (h : goodL ls = true) (hs : ∀ l ∈ ls', l ∈ ls) : goodL ls' = true := by
  rw [goodL_iff] at *
  exact fun l hl => h l (hs l hl)
theorem good_ref (ls : List (List Ent)) : ordL (refMergeL ls) = true := srt_ordL (refMerge_spec ls).1
theorem good_four (ls : List (List Ent)) (k : Nat) : goodL [[], refMergeL (ls.take k), [], refMergeL (ls.drop k)] = true := by
  simp [goodL, good_ref, ordL]
theorem flat_sub_take (ls : List (List Ent)) (k : Nat) : (ls.take k).flatten.length ≤ ls.flatten.length ∧ (ls.drop k).flatten.length ≤ ls.flatten.length ∧ (ls.take k).flatten.length + (ls.drop k).flatten.length = ls.flatten.length := by
  have : ls.flatten = (ls.take k).flatten ++ (ls.drop k).flatten := by rw [← List.flatten_append, List.take_append_drop]
  rw [this, List.length_append]; omega
theorem srt_at {l : List Ent} (h : Srt l) {i : Nat} {a b : Ent} (ha : l[i]? = some a) (hb : l[i + 1]? = some b) : bef a b = true := by
  obtain ⟨h1, rfl⟩ := List.getElem?_eq_some_iff.1 ha
  obtain ⟨h2, rfl⟩ := List.getElem?_eq_some_iff.1 hb
  exact List.pairwise_iff_getElem.1 h i (i + 1) h1 h2 (by omega)

/-! ### pieces of a slice of slices -/
theorem Sl2.take {L : Addr → Option Value} {v : Value} {ls : List (List Ent)} (h : Sl2 L v ls) (n : Nat) (hn : n ≤ ls.length) : ∃ a m c, v = .slice a m c ∧ n ≤ c ∧ Sl2 L (.slice a n c) (ls.take n) := by
  obtain ⟨vs, h1, h2, h3⟩ := h
  obtain ⟨a, m, c, q1, q2, q3⟩ := Sl.take h1 n (by simpa [h2] using hn)
  refine ⟨a, m, c, q1, q2, vs.take n, by rw [List.map_take]; exact q3, by simp [h2], fun i u l hu hl => ?_⟩
  rw [List.getElem?_take] at hu hl
  split at hu
  · rw [if_pos (by assumption)] at hl; exact h3 i u l hu hl
  · cases hu
theorem Sl2.drop {L : Addr → Option Value} {v : Value} {ls : List (List Ent)} (h : Sl2 L v ls) (n : Nat) (hn : n ≤ ls.length) : ∃ a m c, v = .slice a m c ∧ n ≤ m ∧ Sl2 L (.slice (if c = n then a else a.map (·.add (n * 1))) (m - n) (c - n)) (ls.drop n) := by
  obtain ⟨vs, h1, h2, h3⟩ := h
  obtain ⟨a, m, c, q1, q2, q3⟩ := Sl.drop h1 n (by simpa [h2] using hn)
  refine ⟨a, m, c, q1, q2, vs.drop n, by rw [List.map_drop]; exact q3, by simp [h2], fun i u l hu hl => ?_⟩
  rw [List.getElem?_drop] at hu hl
  exact h3 _ u l hu hl
theorem fill_four1 {cells : Array Value} {u0 u1 u2 u3 : Value} (h0 : u0.cells = #[u0]) (h1 : u1.cells = #[u1]) (h2 : u2.cells = #[u2]) (h3 : u3.cells = #[u3]) (hs : cells.size = 4 * 1) :
    Instr.fill (fun i => some (i * 1, 1)) cells [(0, u0), (1, u1), (2, u2), (3, u3)] = some #[u0, u1, u2, u3] := by
  rw [fill_one (off := 0) (sz := 1) (by simp) (by rw [h0]; rfl) (by omega)]
  rw [fill_one (off := 1) (sz := 1) (by simp) (by rw [h1]; rfl) (by simp [h0]; omega)]
  rw [fill_one (off := 2) (sz := 1) (by simp) (by rw [h2]; rfl) (by simp [h0, h1]; omega)]
  rw [fill_one (off := 3) (sz := 1) (by simp) (by rw [h3]; rfl) (by simp [h0, h1, h2]; omega), Instr.fill]
  obtain ⟨l⟩ := cells
  match l, hs with
  | [x0, x1, x2, x3], _ => simp [h0, h1, h2, h3]
theorem New.four {x : Th} {O O1 : Gh} {w w1 : World} {m : Nat} {u0 u1 u2 u3 : Value} {t : TypeId} (h : New x O w O1 w1 m (.cells #[u0, u1, u2, u3] t)) :
    Sl 1 (ldOf x O1 w1) (.slice (some ⟨m, 0, none⟩) 4 4) ([u0, u1, u2, u3].map fun u => #[u]) := .inr ⟨m, 0, 4, rfl, Nat.le_refl _, fun i q hi => by
  rcases i with _ | _ | _ | _ | i
  all_goals first | (simp at hi; done) | skip
  all_goals
    simp at hi; subst hi
    refine ⟨rfl, fun k hk => ?_⟩
    obtain rfl : k = 0 := by omega
    exact h.cell _ _ rfl⟩
theorem Buf.cells1 {sz : Nat} {x : Th} {O : Gh} {w : World} {m : Nat} {s : Value} {cs : List (Array Value)} (h : Buf sz x O w m s cs) : s.cells = #[s] := by
  obtain ⟨_, ⟨_, rfl⟩ | ⟨_, _, _, rfl, _⟩⟩ := h <;> rfl
theorem info25 : (P.info? 25).map (·.size) = some 1 := by kernel_rfl

theorem bin_rem64 {L : Addr → Option Value} (u : TypeId) (x y : Operand) (a b : Int) (hb : b ≠ 0) : binL L .rem u x y (.int .u64 a) (.int .u64 b) = some (.value (.int .u64 (a.tmod b))) := by
  simp [binL, eqGuard, binOp, Op.intDiv, hb, runL_bind, runL_pure]

theorem rem_at (n : Int) (m : Nat) (hm : m < 100000) : ∃ k : Nat, k ≤ m ∧ IntKind.i64.wrap ((IntKind.u64.wrap n).tmod (IntKind.u64.wrap ((m : Int) + 1))) = (k : Int) := by
  have h1 : IntKind.u64.wrap ((m : Int) + 1) = (m : Int) + 1 := by rw [IntKind.wrap_u64]; omega
  have h2 : 0 ≤ IntKind.u64.wrap n := by rw [IntKind.wrap_u64]; omega
  have h3 := Int.tmod_nonneg ((m : Int) + 1) h2
  have h4 := Int.tmod_lt_of_pos (IntKind.u64.wrap n) (show 0 < (m : Int) + 1 by omega)
  refine ⟨((IntKind.u64.wrap n).tmod ((m : Int) + 1)).toNat, by omega, ?_⟩
  rw [h1, wrap64 _ (by omega) (by omega)]; omega

set_option maxHeartbeats 16000000 in
theorem mergeParts_M {Post : Value → World → Prop} (ls : List (List Ent)) (v : Value) (n : Int) (O : Gh) (w : World) (hv : Sl2 (ldOf x0 O w) v ls) (hd : O.deaf = 0)
    (hpost : ∀ O' w', Keep O w O' w' → Post (.bool true) w') : Tree P x0 (Will P Post) O (G (Frame.enter P 4 #[v, .int .i64 n] .normal) []) w := by
  rw [enter2 _ _ Try.func4 rfl Try.ntmps4 (by decide)]
  have hcl := cutL_len ls
  have hcls := cutL_lens ls
  have hct := cutL_tot ls
  have b1 : (cutL ls).length < 100000 := by omega
  have b2 : ∀ l ∈ cutL ls, l.length < 100000 := fun l hl => by have := hcls l hl; omega
  have b3 : total (cutL ls) < 100000 := by rw [total_flat]; omega
  refine t_seq ?_
  refine t_region ?_
  repeat (first
    | (refine t_skG rfl (by decide) rfl ?_)
    | (refine t_skU rfl (by decide) rfl ?_)
    | (first | refine t_rdG (by decide) rfl (by decide) rfl (fun K hK => ?_) | refine t_rd (by decide) (fun K hK => ?_)
       simp only [x_f37_0, x_f37_1, x_f37_2, x_f37_3, x_f50_0, x_f50_1, x_f66_0, x_f66_1, x_f66_2, x_load3, x_load4, x_load9, x_load22, x_load25, x_load51, x_load63, x_load64, x_load71, x_load37, x_load50, x_index25, x_index22, x_index39, x_index62, x_len25, x_len22, x_len39, x_len62, x_extract, x_not, x_move, x_assign, x_pick, x_bin, ev, put_some, upd, args1, args2, args3, args4, fieldL_some, loadL_some, lenL_slice, extL, notL_bool, bin_lssS, bin_eqlS, bin_neqS, bin_lss, bin_leq, bin_gtr, bin_geq, bin_eql, bin_neq, bin_neq37, bin_neq50, bin_add, bin_sub, pickL_true, pickL_false, Addr.add, ↓reduceIte, Nat.reduceLT, Nat.reduceEqDiff, Nat.zero_add, Nat.reduceAdd, Option.map_some, opThen_some, List.getElem_toArray, List.getElem_cons_zero, List.getElem_cons_succ]
       refine hK _ ?_
       clear hK K))
  refine t_done ?_
  refine t_seq ?_
  refine t_seq ?_
  refine t_region ?_
  refine t_callA #[] (by decide) Try.func8 nm8 rfl (by simp) ?_
  intro c1 hret
  refine awake_M O w c1 [] hd fun O1 w1 k1 => hret _ O1 w1 ?_
  clear hret
  repeat (first
    | (refine t_skG rfl (by decide) rfl ?_)
    | (refine t_skU rfl (by decide) rfl ?_)
    | (first | refine t_rdG (by decide) rfl (by decide) rfl (fun K hK => ?_) | refine t_rd (by decide) (fun K hK => ?_)
       simp only [x_f37_0, x_f37_1, x_f37_2, x_f37_3, x_f50_0, x_f50_1, x_f66_0, x_f66_1, x_f66_2, x_load3, x_load4, x_load9, x_load22, x_load25, x_load51, x_load63, x_load64, x_load71, x_load37, x_load50, x_index25, x_index22, x_index39, x_index62, x_len25, x_len22, x_len39, x_len62, x_extract, x_not, x_move, x_assign, x_pick, x_bin, ev, put_some, upd, args1, args2, args3, args4, fieldL_some, loadL_some, lenL_slice, extL, notL_bool, bin_lssS, bin_eqlS, bin_neqS, bin_lss, bin_leq, bin_gtr, bin_geq, bin_eql, bin_neq, bin_neq37, bin_neq50, bin_add, bin_sub, pickL_true, pickL_false, Addr.add, ↓reduceIte, Nat.reduceLT, Nat.reduceEqDiff, Nat.zero_add, Nat.reduceAdd, Option.map_some, opThen_some, List.getElem_toArray, List.getElem_cons_zero, List.getElem_cons_succ]
       refine hK _ ?_
       clear hK K))
  refine t_done ?_
  refine t_false rfl ?_
  refine t_skip ?_
  have hv1 : Sl2 (ldOf x0 O1 w1) v ls := hv.mono k1.know
  refine t_seq ?_
  refine t_region ?_
  iterate 1 (first
    | (refine t_skG rfl (by decide) rfl ?_)
    | (refine t_skU rfl (by decide) rfl ?_)
    | (first | refine t_rdG (by decide) rfl (by decide) rfl (fun K hK => ?_) | refine t_rd (by decide) (fun K hK => ?_)
       simp only [x_f37_0, x_f37_1, x_f37_2, x_f37_3, x_f50_0, x_f50_1, x_f66_0, x_f66_1, x_f66_2, x_load3, x_load4, x_load9, x_load22, x_load25, x_load51, x_load63, x_load64, x_load71, x_load37, x_load50, x_index25, x_index22, x_index39, x_index62, x_len25, x_len22, x_len39, x_len62, x_extract, x_not, x_move, x_assign, x_pick, x_bin, ev, put_some, upd, args1, args2, args3, args4, fieldL_some, loadL_some, lenL_slice, extL, notL_bool, bin_lssS, bin_eqlS, bin_neqS, bin_lss, bin_leq, bin_gtr, bin_geq, bin_eql, bin_neq, bin_neq37, bin_neq50, bin_add, bin_sub, pickL_true, pickL_false, Addr.add, ↓reduceIte, Nat.reduceLT, Nat.reduceEqDiff, Nat.zero_add, Nat.reduceAdd, Option.map_some, opThen_some, List.getElem_toArray, List.getElem_cons_zero, List.getElem_cons_succ]
       refine hK _ ?_
       clear hK K))
  refine t_callA #[v] (by decide) Try.func9 nm9 rfl (by simp only [List.map_toArray, List.map_cons, List.map_nil, x_f37_0, x_f37_1, x_f37_2, x_f37_3, x_f50_0, x_f50_1, x_f66_0, x_f66_1, x_f66_2, x_load3, x_load4, x_load9, x_load22, x_load25, x_load51, x_load63, x_load64, x_load71, x_load37, x_load50, x_index25, x_index22, x_index39, x_index62, x_len25, x_len22, x_len39, x_len62, x_extract, x_not, x_move, x_assign, x_pick, x_bin, ev, put_some, upd, args1, args2, args3, args4, fieldL_some, loadL_some, lenL_slice, extL, notL_bool, bin_lssS, bin_eqlS, bin_neqS, bin_lss, bin_leq, bin_gtr, bin_geq, bin_eql, bin_neq, bin_neq37, bin_neq50, bin_add, bin_sub, pickL_true, pickL_false, Addr.add, ↓reduceIte, Nat.reduceLT, Nat.reduceEqDiff, Nat.zero_add, Nat.reduceAdd, Option.map_some, opThen_some, List.getElem_toArray, List.getElem_cons_zero, List.getElem_cons_succ]) ?_
  intro c2 hret
  refine cut_K hv1 fun O2 w2 s k2 hs => hret _ O2 w2 ?_
  clear hret
  repeat (first
    | (refine t_skG rfl (by decide) rfl ?_)
    | (refine t_skU rfl (by decide) rfl ?_)
    | (first | refine t_rdG (by decide) rfl (by decide) rfl (fun K hK => ?_) | refine t_rd (by decide) (fun K hK => ?_)
       simp only [x_f37_0, x_f37_1, x_f37_2, x_f37_3, x_f50_0, x_f50_1, x_f66_0, x_f66_1, x_f66_2, x_load3, x_load4, x_load9, x_load22, x_load25, x_load51, x_load63, x_load64, x_load71, x_load37, x_load50, x_index25, x_index22, x_index39, x_index62, x_len25, x_len22, x_len39, x_len62, x_extract, x_not, x_move, x_assign, x_pick, x_bin, ev, put_some, upd, args1, args2, args3, args4, fieldL_some, loadL_some, lenL_slice, extL, notL_bool, bin_lssS, bin_eqlS, bin_neqS, bin_lss, bin_leq, bin_gtr, bin_geq, bin_eql, bin_neq, bin_neq37, bin_neq50, bin_add, bin_sub, pickL_true, pickL_false, Addr.add, ↓reduceIte, Nat.reduceLT, Nat.reduceEqDiff, Nat.zero_add, Nat.reduceAdd, Option.map_some, opThen_some, List.getElem_toArray, List.getElem_cons_zero, List.getElem_cons_succ]
       refine hK _ ?_
       clear hK K))
  refine t_done ?_
  have k02 := k1.trans k2
  generalize hC : cutL ls = C at *
  -- in order?
  refine t_seq ?_
  refine t_seq ?_
  refine t_region ?_
  iterate 1 (first
    | (refine t_skG rfl (by decide) rfl ?_)
    | (refine t_skU rfl (by decide) rfl ?_)
    | (first | refine t_rdG (by decide) rfl (by decide) rfl (fun K hK => ?_) | refine t_rd (by decide) (fun K hK => ?_)
       simp only [x_f37_0, x_f37_1, x_f37_2, x_f37_3, x_f50_0, x_f50_1, x_f66_0, x_f66_1, x_f66_2, x_load3, x_load4, x_load9, x_load22, x_load25, x_load51, x_load63, x_load64, x_load71, x_load37, x_load50, x_index25, x_index22, x_index39, x_index62, x_len25, x_len22, x_len39, x_len62, x_extract, x_not, x_move, x_assign, x_pick, x_bin, ev, put_some, upd, args1, args2, args3, args4, fieldL_some, loadL_some, lenL_slice, extL, notL_bool, bin_lssS, bin_eqlS, bin_neqS, bin_lss, bin_leq, bin_gtr, bin_geq, bin_eql, bin_neq, bin_neq37, bin_neq50, bin_add, bin_sub, pickL_true, pickL_false, Addr.add, ↓reduceIte, Nat.reduceLT, Nat.reduceEqDiff, Nat.zero_add, Nat.reduceAdd, Option.map_some, opThen_some, List.getElem_toArray, List.getElem_cons_zero, List.getElem_cons_succ]
       refine hK _ ?_
       clear hK K))
  refine t_callA #[s] (by decide) Try.func12 nm12 rfl (by simp only [List.map_toArray, List.map_cons, List.map_nil, x_f37_0, x_f37_1, x_f37_2, x_f37_3, x_f50_0, x_f50_1, x_f66_0, x_f66_1, x_f66_2, x_load3, x_load4, x_load9, x_load22, x_load25, x_load51, x_load63, x_load64, x_load71, x_load37, x_load50, x_index25, x_index22, x_index39, x_index62, x_len25, x_len22, x_len39, x_len62, x_extract, x_not, x_move, x_assign, x_pick, x_bin, ev, put_some, upd, args1, args2, args3, args4, fieldL_some, loadL_some, lenL_slice, extL, notL_bool, bin_lssS, bin_eqlS, bin_neqS, bin_lss, bin_leq, bin_gtr, bin_geq, bin_eql, bin_neq, bin_neq37, bin_neq50, bin_add, bin_sub, pickL_true, pickL_false, Addr.add, ↓reduceIte, Nat.reduceLT, Nat.reduceEqDiff, Nat.zero_add, Nat.reduceAdd, Option.map_some, opThen_some, List.getElem_toArray, List.getElem_cons_zero, List.getElem_cons_succ]) ?_
  intro c3 hret
  refine good_M C s O2 w2 c3 [] hs (by omega) (fun l hl => by have := b2 l hl; omega) fun O3 w3 r3 => hret _ O3 w3 ?_
  clear hret
  have hs3 := hs.rely r3
  have k03 := k02.trans r3.keep
  cases hg : goodL C with
  | false =>
    repeat (first
      | (refine t_skG rfl (by decide) rfl ?_)
      | (refine t_skU rfl (by decide) rfl ?_)
      | (first | refine t_rdG (by decide) rfl (by decide) rfl (fun K hK => ?_) | refine t_rd (by decide) (fun K hK => ?_)
         simp only [x_f37_0, x_f37_1, x_f37_2, x_f37_3, x_f50_0, x_f50_1, x_f66_0, x_f66_1, x_f66_2, x_load3, x_load4, x_load9, x_load22, x_load25, x_load51, x_load63, x_load64, x_load71, x_load37, x_load50, x_index25, x_index22, x_index39, x_index62, x_len25, x_len22, x_len39, x_len62, x_extract, x_not, x_move, x_assign, x_pick, x_bin, ev, put_some, upd, args1, args2, args3, args4, fieldL_some, loadL_some, lenL_slice, extL, notL_bool, bin_lssS, bin_eqlS, bin_neqS, bin_lss, bin_leq, bin_gtr, bin_geq, bin_eql, bin_neq, bin_neq37, bin_neq50, bin_add, bin_sub, pickL_true, pickL_false, Addr.add, ↓reduceIte, Nat.reduceLT, Nat.reduceEqDiff, Nat.zero_add, Nat.reduceAdd, Option.map_some, opThen_some, List.getElem_toArray, List.getElem_cons_zero, List.getElem_cons_succ]
         refine hK _ ?_
         clear hK K))
    refine t_done ?_
    refine t_true rfl ?_
    refine t_seq ?_
    refine t_region ?_
    iterate 1 (first
      | (refine t_skG rfl (by decide) rfl ?_)
      | (refine t_skU rfl (by decide) rfl ?_)
      | (first | refine t_rdG (by decide) rfl (by decide) rfl (fun K hK => ?_) | refine t_rd (by decide) (fun K hK => ?_)
         simp only [x_f37_0, x_f37_1, x_f37_2, x_f37_3, x_f50_0, x_f50_1, x_f66_0, x_f66_1, x_f66_2, x_load3, x_load4, x_load9, x_load22, x_load25, x_load51, x_load63, x_load64, x_load71, x_load37, x_load50, x_index25, x_index22, x_index39, x_index62, x_len25, x_len22, x_len39, x_len62, x_extract, x_not, x_move, x_assign, x_pick, x_bin, ev, put_some, upd, args1, args2, args3, args4, fieldL_some, loadL_some, lenL_slice, extL, notL_bool, bin_lssS, bin_eqlS, bin_neqS, bin_lss, bin_leq, bin_gtr, bin_geq, bin_eql, bin_neq, bin_neq37, bin_neq50, bin_add, bin_sub, pickL_true, pickL_false, Addr.add, ↓reduceIte, Nat.reduceLT, Nat.reduceEqDiff, Nat.zero_add, Nat.reduceAdd, Option.map_some, opThen_some, List.getElem_toArray, List.getElem_cons_zero, List.getElem_cons_succ]
         refine hK _ ?_
         clear hK K))
    refine t_callA #[s] (by decide) Try.func10 nm10 rfl (by simp only [List.map_toArray, List.map_cons, List.map_nil, x_f37_0, x_f37_1, x_f37_2, x_f37_3, x_f50_0, x_f50_1, x_f66_0, x_f66_1, x_f66_2, x_load3, x_load4, x_load9, x_load22, x_load25, x_load51, x_load63, x_load64, x_load71, x_load37, x_load50, x_index25, x_index22, x_index39, x_index62, x_len25, x_len22, x_len39, x_len62, x_extract, x_not, x_move, x_assign, x_pick, x_bin, ev, put_some, upd, args1, args2, args3, args4, fieldL_some, loadL_some, lenL_slice, extL, notL_bool, bin_lssS, bin_eqlS, bin_neqS, bin_lss, bin_leq, bin_gtr, bin_geq, bin_eql, bin_neq, bin_neq37, bin_neq50, bin_add, bin_sub, pickL_true, pickL_false, Addr.add, ↓reduceIte, Nat.reduceLT, Nat.reduceEqDiff, Nat.zero_add, Nat.reduceAdd, Option.map_some, opThen_some, List.getElem_toArray, List.getElem_cons_zero, List.getElem_cons_succ]) ?_
    intro c4 hret
    refine Merge_M C s O3 w3 c4 [] hs3 (k03.deaf.trans hd) b1 b2 b3 (fun h => by rw [hg] at h; cases h) (fun _ O4 w4 k4 => hret _ O4 w4 ?_)
    clear hret
    repeat (first
      | (refine t_skG rfl (by decide) rfl ?_)
      | (refine t_skU rfl (by decide) rfl ?_)
      | (first | refine t_rdG (by decide) rfl (by decide) rfl (fun K hK => ?_) | refine t_rd (by decide) (fun K hK => ?_)
         simp only [x_f37_0, x_f37_1, x_f37_2, x_f37_3, x_f50_0, x_f50_1, x_f66_0, x_f66_1, x_f66_2, x_load3, x_load4, x_load9, x_load22, x_load25, x_load51, x_load63, x_load64, x_load71, x_load37, x_load50, x_index25, x_index22, x_index39, x_index62, x_len25, x_len22, x_len39, x_len62, x_extract, x_not, x_move, x_assign, x_pick, x_bin, ev, put_some, upd, args1, args2, args3, args4, fieldL_some, loadL_some, lenL_slice, extL, notL_bool, bin_lssS, bin_eqlS, bin_neqS, bin_lss, bin_leq, bin_gtr, bin_geq, bin_eql, bin_neq, bin_neq37, bin_neq50, bin_add, bin_sub, pickL_true, pickL_false, Addr.add, ↓reduceIte, Nat.reduceLT, Nat.reduceEqDiff, Nat.zero_add, Nat.reduceAdd, Option.map_some, opThen_some, List.getElem_toArray, List.getElem_cons_zero, List.getElem_cons_succ]
         refine hK _ ?_
         clear hK K))
    refine t_done ?_
    have q60 : ((60 : Int) == 60) = true := by decide
    refine t_seq ?_
    refine t_region ?_
    repeat (first
      | (refine t_skG rfl (by decide) rfl ?_)
      | (refine t_skU rfl (by decide) rfl ?_)
      | (first | refine t_rdG (by decide) rfl (by decide) rfl (fun K hK => ?_) | refine t_rd (by decide) (fun K hK => ?_)
         simp only [x_f37_0, x_f37_1, x_f37_2, x_f37_3, x_f50_0, x_f50_1, x_f66_0, x_f66_1, x_f66_2, x_load3, x_load4, x_load9, x_load22, x_load25, x_load51, x_load63, x_load64, x_load71, x_load37, x_load50, x_index25, x_index22, x_index39, x_index62, x_len25, x_len22, x_len39, x_len62, x_extract, x_not, x_move, x_assign, x_pick, x_bin, ev, put_some, upd, args1, args2, args3, args4, fieldL_some, loadL_some, lenL_slice, extL, notL_bool, bin_lssS, bin_eqlS, bin_neqS, bin_lss, bin_leq, bin_gtr, bin_geq, bin_eql, bin_neq, bin_neq37, bin_neq50, bin_add, bin_sub, pickL_true, pickL_false, Addr.add, ↓reduceIte, Nat.reduceLT, Nat.reduceEqDiff, Nat.zero_add, Nat.reduceAdd, Option.map_some, opThen_some, List.getElem_toArray, List.getElem_cons_zero, List.getElem_cons_succ, q60]
         refine hK _ ?_
         clear hK K))
    refine t_done ?_
    refine t_ret ?_
    have k04 := k03.trans k4
    exact t_final Try.func4 rfl (by decide) rfl (k04.deaf.trans hd) fun O8 w8 r8 => hpost O8 w8 (k04.trans r8.keep)
  | true =>
    repeat (first
      | (refine t_skG rfl (by decide) rfl ?_)
      | (refine t_skU rfl (by decide) rfl ?_)
      | (first | refine t_rdG (by decide) rfl (by decide) rfl (fun K hK => ?_) | refine t_rd (by decide) (fun K hK => ?_)
         simp only [x_f37_0, x_f37_1, x_f37_2, x_f37_3, x_f50_0, x_f50_1, x_f66_0, x_f66_1, x_f66_2, x_load3, x_load4, x_load9, x_load22, x_load25, x_load51, x_load63, x_load64, x_load71, x_load37, x_load50, x_index25, x_index22, x_index39, x_index62, x_len25, x_len22, x_len39, x_len62, x_extract, x_not, x_move, x_assign, x_pick, x_bin, ev, put_some, upd, args1, args2, args3, args4, fieldL_some, loadL_some, lenL_slice, extL, notL_bool, bin_lssS, bin_eqlS, bin_neqS, bin_lss, bin_leq, bin_gtr, bin_geq, bin_eql, bin_neq, bin_neq37, bin_neq50, bin_add, bin_sub, pickL_true, pickL_false, Addr.add, ↓reduceIte, Nat.reduceLT, Nat.reduceEqDiff, Nat.zero_add, Nat.reduceAdd, Option.map_some, opThen_some, List.getElem_toArray, List.getElem_cons_zero, List.getElem_cons_succ]
         refine hK _ ?_
         clear hK K))
    refine t_done ?_
    refine t_false rfl ?_
    refine t_skip ?_
    -- k
    have hlen3 := hs3.len
    obtain ⟨kk, hkl, hkk⟩ := rem_at n C.length (by omega)
    have hw1 : IntKind.i64.wrap ((C.length : Int) + 1) = (C.length : Int) + 1 := by rw [wrap64] <;> omega
    have hne : IntKind.u64.wrap ((C.length : Int) + 1) ≠ 0 := by rw [IntKind.wrap_u64]; omega
    refine t_seq ?_
    refine t_region ?_
    iterate 1 (first
      | (refine t_skG rfl (by decide) rfl ?_)
      | (refine t_skU rfl (by decide) rfl ?_)
      | (first | refine t_rdG (by decide) rfl (by decide) rfl (fun K hK => ?_) | refine t_rd (by decide) (fun K hK => ?_)
         simp only [x_f37_0, x_f37_1, x_f37_2, x_f37_3, x_f50_0, x_f50_1, x_f66_0, x_f66_1, x_f66_2, x_load3, x_load4, x_load9, x_load22, x_load25, x_load51, x_load63, x_load64, x_load71, x_load37, x_load50, x_index25, x_index22, x_index39, x_index62, x_len25, x_len22, x_len39, x_len62, x_extract, x_not, x_move, x_assign, x_pick, x_bin, ev, put_some, upd, args1, args2, args3, args4, fieldL_some, loadL_some, lenL_slice, extL, notL_bool, bin_lssS, bin_eqlS, bin_neqS, bin_lss, bin_leq, bin_gtr, bin_geq, bin_eql, bin_neq, bin_neq37, bin_neq50, bin_add, bin_sub, pickL_true, pickL_false, Addr.add, ↓reduceIte, Nat.reduceLT, Nat.reduceEqDiff, Nat.zero_add, Nat.reduceAdd, Option.map_some, opThen_some, List.getElem_toArray, List.getElem_cons_zero, List.getElem_cons_succ]
         refine hK _ ?_
         clear hK K))
    refine t_val (by decide) (x_convert_int (ks := .i64) (k := .u64) rfl rfl _ rfl) ?_
    iterate 3 (first
      | (refine t_skG rfl (by decide) rfl ?_)
      | (refine t_skU rfl (by decide) rfl ?_)
      | (first | refine t_rdG (by decide) rfl (by decide) rfl (fun K hK => ?_) | refine t_rd (by decide) (fun K hK => ?_)
         simp only [x_f37_0, x_f37_1, x_f37_2, x_f37_3, x_f50_0, x_f50_1, x_f66_0, x_f66_1, x_f66_2, x_load3, x_load4, x_load9, x_load22, x_load25, x_load51, x_load63, x_load64, x_load71, x_load37, x_load50, x_index25, x_index22, x_index39, x_index62, x_len25, x_len22, x_len39, x_len62, x_extract, x_not, x_move, x_assign, x_pick, x_bin, ev, put_some, upd, args1, args2, args3, args4, fieldL_some, loadL_some, lenL_slice, extL, notL_bool, bin_lssS, bin_eqlS, bin_neqS, bin_lss, bin_leq, bin_gtr, bin_geq, bin_eql, bin_neq, bin_neq37, bin_neq50, bin_add, bin_sub, pickL_true, pickL_false, Addr.add, ↓reduceIte, Nat.reduceLT, Nat.reduceEqDiff, Nat.zero_add, Nat.reduceAdd, Option.map_some, opThen_some, List.getElem_toArray, List.getElem_cons_zero, List.getElem_cons_succ, hlen3, hw1]
         refine hK _ ?_
         clear hK K))
    refine t_val (by decide) (x_convert_int (ks := .i64) (k := .u64) rfl rfl _ rfl) ?_
    refine t_val (v := .int .u64 ((IntKind.u64.wrap n).tmod (IntKind.u64.wrap ((C.length : Int) + 1)))) (by decide) (by rw [x_bin]; simp only [x_f37_0, x_f37_1, x_f37_2, x_f37_3, x_f50_0, x_f50_1, x_f66_0, x_f66_1, x_f66_2, x_load3, x_load4, x_load9, x_load22, x_load25, x_load51, x_load63, x_load64, x_load71, x_load37, x_load50, x_index25, x_index22, x_index39, x_index62, x_len25, x_len22, x_len39, x_len62, x_extract, x_not, x_move, x_assign, x_pick, x_bin, ev, put_some, upd, args1, args2, args3, args4, fieldL_some, loadL_some, lenL_slice, extL, notL_bool, bin_lssS, bin_eqlS, bin_neqS, bin_lss, bin_leq, bin_gtr, bin_geq, bin_eql, bin_neq, bin_neq37, bin_neq50, bin_add, bin_sub, pickL_true, pickL_false, Addr.add, ↓reduceIte, Nat.reduceLT, Nat.reduceEqDiff, Nat.zero_add, Nat.reduceAdd, Option.map_some, opThen_some, List.getElem_toArray, List.getElem_cons_zero, List.getElem_cons_succ]; exact bin_rem64 _ _ _ _ _ hne) ?_
    refine t_val (v := .int .i64 (kk : Int)) (by decide) (by rw [← hkk]; exact x_convert_int (ks := .u64) (k := .i64) rfl rfl _ rfl) ?_
    repeat (first
      | (refine t_skG rfl (by decide) rfl ?_)
      | (refine t_skU rfl (by decide) rfl ?_)
      | (first | refine t_rdG (by decide) rfl (by decide) rfl (fun K hK => ?_) | refine t_rd (by decide) (fun K hK => ?_)
         simp only [x_f37_0, x_f37_1, x_f37_2, x_f37_3, x_f50_0, x_f50_1, x_f66_0, x_f66_1, x_f66_2, x_load3, x_load4, x_load9, x_load22, x_load25, x_load51, x_load63, x_load64, x_load71, x_load37, x_load50, x_index25, x_index22, x_index39, x_index62, x_len25, x_len22, x_len39, x_len62, x_extract, x_not, x_move, x_assign, x_pick, x_bin, ev, put_some, upd, args1, args2, args3, args4, fieldL_some, loadL_some, lenL_slice, extL, notL_bool, bin_lssS, bin_eqlS, bin_neqS, bin_lss, bin_leq, bin_gtr, bin_geq, bin_eql, bin_neq, bin_neq37, bin_neq50, bin_add, bin_sub, pickL_true, pickL_false, Addr.add, ↓reduceIte, Nat.reduceLT, Nat.reduceEqDiff, Nat.zero_add, Nat.reduceAdd, Option.map_some, opThen_some, List.getElem_toArray, List.getElem_cons_zero, List.getElem_cons_succ]
         refine hK _ ?_
         clear hK K))
    refine t_done ?_
    obtain ⟨f1, f2, f3⟩ := flat_sub_take C kk
    have gA : goodL (C.take kk) = true := good_sub hg fun l hl => List.mem_of_mem_take hl
    have gB : goodL (C.drop kk) = true := good_sub hg fun l hl => List.mem_of_mem_drop hl
    have lA := refMergeL_len (C.take kk)
    have lB := refMergeL_len (C.drop kk)
    have lC := refMergeL_len C
    -- the first lists
    obtain ⟨sa, sm, sc, hse, hsle, hsl⟩ := Sl2.take hs3 kk hkl
    refine t_seq ?_
    refine t_region ?_
    iterate 2 (first
      | (refine t_skG rfl (by decide) rfl ?_)
      | (refine t_skU rfl (by decide) rfl ?_)
      | (first | refine t_rdG (by decide) rfl (by decide) rfl (fun K hK => ?_) | refine t_rd (by decide) (fun K hK => ?_)
         simp only [x_f37_0, x_f37_1, x_f37_2, x_f37_3, x_f50_0, x_f50_1, x_f66_0, x_f66_1, x_f66_2, x_load3, x_load4, x_load9, x_load22, x_load25, x_load51, x_load63, x_load64, x_load71, x_load37, x_load50, x_index25, x_index22, x_index39, x_index62, x_len25, x_len22, x_len39, x_len62, x_extract, x_not, x_move, x_assign, x_pick, x_bin, ev, put_some, upd, args1, args2, args3, args4, fieldL_some, loadL_some, lenL_slice, extL, notL_bool, bin_lssS, bin_eqlS, bin_neqS, bin_lss, bin_leq, bin_gtr, bin_geq, bin_eql, bin_neq, bin_neq37, bin_neq50, bin_add, bin_sub, pickL_true, pickL_false, Addr.add, ↓reduceIte, Nat.reduceLT, Nat.reduceEqDiff, Nat.zero_add, Nat.reduceAdd, Option.map_some, opThen_some, List.getElem_toArray, List.getElem_cons_zero, List.getElem_cons_succ]
         refine hK _ ?_
         clear hK K))
    refine t_val (v := .slice sa kk sc) (by decide) (x_sliceHi (sz := 1) (a := sa) (n := sm) (cap := sc) (h := kk) (k := .i64) Try.underlying22 info25 _ _ (by show s = _; exact hse) (by simp only [x_f37_0, x_f37_1, x_f37_2, x_f37_3, x_f50_0, x_f50_1, x_f66_0, x_f66_1, x_f66_2, x_load3, x_load4, x_load9, x_load22, x_load25, x_load51, x_load63, x_load64, x_load71, x_load37, x_load50, x_index25, x_index22, x_index39, x_index62, x_len25, x_len22, x_len39, x_len62, x_extract, x_not, x_move, x_assign, x_pick, x_bin, ev, put_some, upd, args1, args2, args3, args4, fieldL_some, loadL_some, lenL_slice, extL, notL_bool, bin_lssS, bin_eqlS, bin_neqS, bin_lss, bin_leq, bin_gtr, bin_geq, bin_eql, bin_neq, bin_neq37, bin_neq50, bin_add, bin_sub, pickL_true, pickL_false, Addr.add, ↓reduceIte, Nat.reduceLT, Nat.reduceEqDiff, Nat.zero_add, Nat.reduceAdd, Option.map_some, opThen_some, List.getElem_toArray, List.getElem_cons_zero, List.getElem_cons_succ]) hsle) ?_
    refine t_callA #[.slice sa kk sc] (by decide) Try.func10 nm10 rfl (by simp only [List.map_toArray, List.map_cons, List.map_nil, x_f37_0, x_f37_1, x_f37_2, x_f37_3, x_f50_0, x_f50_1, x_f66_0, x_f66_1, x_f66_2, x_load3, x_load4, x_load9, x_load22, x_load25, x_load51, x_load63, x_load64, x_load71, x_load37, x_load50, x_index25, x_index22, x_index39, x_index62, x_len25, x_len22, x_len39, x_len62, x_extract, x_not, x_move, x_assign, x_pick, x_bin, ev, put_some, upd, args1, args2, args3, args4, fieldL_some, loadL_some, lenL_slice, extL, notL_bool, bin_lssS, bin_eqlS, bin_neqS, bin_lss, bin_leq, bin_gtr, bin_geq, bin_eql, bin_neq, bin_neq37, bin_neq50, bin_add, bin_sub, pickL_true, pickL_false, Addr.add, ↓reduceIte, Nat.reduceLT, Nat.reduceEqDiff, Nat.zero_add, Nat.reduceAdd, Option.map_some, opThen_some, List.getElem_toArray, List.getElem_cons_zero, List.getElem_cons_succ]) ?_
    intro c4 hret
    refine Merge_M (C.take kk) _ O3 w3 c4 [] hsl (k03.deaf.trans hd) (by rw [List.length_take]; omega) (fun l hl => b2 l (List.mem_of_mem_take hl)) (by rw [total_flat]; omega) (fun _ O4 w4 l4 m4 k4 hb4 _ _ => hret _ O4 w4 ?_) (fun h => by rw [gA] at h; cases h)
    clear hret
    rw [mergeL_eq gA (by omega)] at hb4
    have hs4 := hs3.mono k4.know
    have h4l : SlE (ldOf x0 O4 w4) l4 (refMergeL (C.take kk)) := hb4.sl
    have k04 := k03.trans k4
    repeat (first
      | (refine t_skG rfl (by decide) rfl ?_)
      | (refine t_skU rfl (by decide) rfl ?_)
      | (first | refine t_rdG (by decide) rfl (by decide) rfl (fun K hK => ?_) | refine t_rd (by decide) (fun K hK => ?_)
         simp only [x_f37_0, x_f37_1, x_f37_2, x_f37_3, x_f50_0, x_f50_1, x_f66_0, x_f66_1, x_f66_2, x_load3, x_load4, x_load9, x_load22, x_load25, x_load51, x_load63, x_load64, x_load71, x_load37, x_load50, x_index25, x_index22, x_index39, x_index62, x_len25, x_len22, x_len39, x_len62, x_extract, x_not, x_move, x_assign, x_pick, x_bin, ev, put_some, upd, args1, args2, args3, args4, fieldL_some, loadL_some, lenL_slice, extL, notL_bool, bin_lssS, bin_eqlS, bin_neqS, bin_lss, bin_leq, bin_gtr, bin_geq, bin_eql, bin_neq, bin_neq37, bin_neq50, bin_add, bin_sub, pickL_true, pickL_false, Addr.add, ↓reduceIte, Nat.reduceLT, Nat.reduceEqDiff, Nat.zero_add, Nat.reduceAdd, Option.map_some, opThen_some, List.getElem_toArray, List.getElem_cons_zero, List.getElem_cons_succ]
         refine hK _ ?_
         clear hK K))
    refine t_done ?_
    -- the others
    obtain ⟨sa2, sm2, sc2, hse2, hsle2, hsl2⟩ := Sl2.drop hs4 kk hkl
    refine t_seq ?_
    refine t_region ?_
    iterate 2 (first
      | (refine t_skG rfl (by decide) rfl ?_)
      | (refine t_skU rfl (by decide) rfl ?_)
      | (first | refine t_rdG (by decide) rfl (by decide) rfl (fun K hK => ?_) | refine t_rd (by decide) (fun K hK => ?_)
         simp only [x_f37_0, x_f37_1, x_f37_2, x_f37_3, x_f50_0, x_f50_1, x_f66_0, x_f66_1, x_f66_2, x_load3, x_load4, x_load9, x_load22, x_load25, x_load51, x_load63, x_load64, x_load71, x_load37, x_load50, x_index25, x_index22, x_index39, x_index62, x_len25, x_len22, x_len39, x_len62, x_extract, x_not, x_move, x_assign, x_pick, x_bin, ev, put_some, upd, args1, args2, args3, args4, fieldL_some, loadL_some, lenL_slice, extL, notL_bool, bin_lssS, bin_eqlS, bin_neqS, bin_lss, bin_leq, bin_gtr, bin_geq, bin_eql, bin_neq, bin_neq37, bin_neq50, bin_add, bin_sub, pickL_true, pickL_false, Addr.add, ↓reduceIte, Nat.reduceLT, Nat.reduceEqDiff, Nat.zero_add, Nat.reduceAdd, Option.map_some, opThen_some, List.getElem_toArray, List.getElem_cons_zero, List.getElem_cons_succ]
         refine hK _ ?_
         clear hK K))
    refine t_val (by decide) (x_sliceLo (sz := 1) (a := sa2) (n := sm2) (cap := sc2) (l := kk) (k := .i64) Try.underlying22 info25 _ _ (by show s = _; exact hse2) (by simp only [x_f37_0, x_f37_1, x_f37_2, x_f37_3, x_f50_0, x_f50_1, x_f66_0, x_f66_1, x_f66_2, x_load3, x_load4, x_load9, x_load22, x_load25, x_load51, x_load63, x_load64, x_load71, x_load37, x_load50, x_index25, x_index22, x_index39, x_index62, x_len25, x_len22, x_len39, x_len62, x_extract, x_not, x_move, x_assign, x_pick, x_bin, ev, put_some, upd, args1, args2, args3, args4, fieldL_some, loadL_some, lenL_slice, extL, notL_bool, bin_lssS, bin_eqlS, bin_neqS, bin_lss, bin_leq, bin_gtr, bin_geq, bin_eql, bin_neq, bin_neq37, bin_neq50, bin_add, bin_sub, pickL_true, pickL_false, Addr.add, ↓reduceIte, Nat.reduceLT, Nat.reduceEqDiff, Nat.zero_add, Nat.reduceAdd, Option.map_some, opThen_some, List.getElem_toArray, List.getElem_cons_zero, List.getElem_cons_succ]) hsle2) ?_
    refine t_callA #[.slice (if sc2 = kk then sa2 else sa2.map (·.add (kk * 1))) (sm2 - kk) (sc2 - kk)] (by decide) Try.func10 nm10 rfl (by simp only [List.map_toArray, List.map_cons, List.map_nil, x_f37_0, x_f37_1, x_f37_2, x_f37_3, x_f50_0, x_f50_1, x_f66_0, x_f66_1, x_f66_2, x_load3, x_load4, x_load9, x_load22, x_load25, x_load51, x_load63, x_load64, x_load71, x_load37, x_load50, x_index25, x_index22, x_index39, x_index62, x_len25, x_len22, x_len39, x_len62, x_extract, x_not, x_move, x_assign, x_pick, x_bin, ev, put_some, upd, args1, args2, args3, args4, fieldL_some, loadL_some, lenL_slice, extL, notL_bool, bin_lssS, bin_eqlS, bin_neqS, bin_lss, bin_leq, bin_gtr, bin_geq, bin_eql, bin_neq, bin_neq37, bin_neq50, bin_add, bin_sub, pickL_true, pickL_false, Addr.add, ↓reduceIte, Nat.reduceLT, Nat.reduceEqDiff, Nat.zero_add, Nat.reduceAdd, Option.map_some, opThen_some, List.getElem_toArray, List.getElem_cons_zero, List.getElem_cons_succ]) ?_
    intro c5 hret
    refine Merge_M (C.drop kk) _ O4 w4 c5 [] hsl2 (k04.deaf.trans hd) (by rw [List.length_drop]; omega) (fun l hl => b2 l (List.mem_of_mem_drop hl)) (by rw [total_flat]; omega) (fun _ O5 w5 l5 m5 k5 hb5 _ _ => hret _ O5 w5 ?_) (fun h => by rw [gB] at h; cases h)
    clear hret
    rw [mergeL_eq gB (by omega)] at hb5
    have hs5 := hs4.mono k5.know
    have h5l : SlE (ldOf x0 O5 w5) l5 (refMergeL (C.drop kk)) := hb5.sl
    have h4l5 : SlE (ldOf x0 O5 w5) l4 (refMergeL (C.take kk)) := Sl.mono h4l k5.know
    have k05 := k04.trans k5
    repeat (first
      | (refine t_skG rfl (by decide) rfl ?_)
      | (refine t_skU rfl (by decide) rfl ?_)
      | (first | refine t_rdG (by decide) rfl (by decide) rfl (fun K hK => ?_) | refine t_rd (by decide) (fun K hK => ?_)
         simp only [x_f37_0, x_f37_1, x_f37_2, x_f37_3, x_f50_0, x_f50_1, x_f66_0, x_f66_1, x_f66_2, x_load3, x_load4, x_load9, x_load22, x_load25, x_load51, x_load63, x_load64, x_load71, x_load37, x_load50, x_index25, x_index22, x_index39, x_index62, x_len25, x_len22, x_len39, x_len62, x_extract, x_not, x_move, x_assign, x_pick, x_bin, ev, put_some, upd, args1, args2, args3, args4, fieldL_some, loadL_some, lenL_slice, extL, notL_bool, bin_lssS, bin_eqlS, bin_neqS, bin_lss, bin_leq, bin_gtr, bin_geq, bin_eql, bin_neq, bin_neq37, bin_neq50, bin_add, bin_sub, pickL_true, pickL_false, Addr.add, ↓reduceIte, Nat.reduceLT, Nat.reduceEqDiff, Nat.zero_add, Nat.reduceAdd, Option.map_some, opThen_some, List.getElem_toArray, List.getElem_cons_zero, List.getElem_cons_succ]
         refine hK _ ?_
         clear hK K))
    refine t_done ?_
    -- both
    have cA : l4.cells = #[l4] := hb4.cells1
    have cB : l5.cells = #[l5] := hb5.cells1
    refine t_seq ?_
    refine t_region ?_
    iterate 2 (first
      | (refine t_skG rfl (by decide) rfl ?_)
      | (refine t_skU rfl (by decide) rfl ?_)
      | (first | refine t_rdG (by decide) rfl (by decide) rfl (fun K hK => ?_) | refine t_rd (by decide) (fun K hK => ?_)
         simp only [x_f37_0, x_f37_1, x_f37_2, x_f37_3, x_f50_0, x_f50_1, x_f66_0, x_f66_1, x_f66_2, x_load3, x_load4, x_load9, x_load22, x_load25, x_load51, x_load63, x_load64, x_load71, x_load37, x_load50, x_index25, x_index22, x_index39, x_index62, x_len25, x_len22, x_len39, x_len62, x_extract, x_not, x_move, x_assign, x_pick, x_bin, ev, put_some, upd, args1, args2, args3, args4, fieldL_some, loadL_some, lenL_slice, extL, notL_bool, bin_lssS, bin_eqlS, bin_neqS, bin_lss, bin_leq, bin_gtr, bin_geq, bin_eql, bin_neq, bin_neq37, bin_neq50, bin_add, bin_sub, pickL_true, pickL_false, Addr.add, ↓reduceIte, Nat.reduceLT, Nat.reduceEqDiff, Nat.zero_add, Nat.reduceAdd, Option.map_some, opThen_some, List.getElem_toArray, List.getElem_cons_zero, List.getElem_cons_succ]
         refine hK _ ?_
         clear hK K))
    refine t_buildSlice (sz := 1) (cells := #[.slice none 0 0, l4, .slice none 0 0, l5]) (pv := #[(0, .slice none 0 0), (1, l4), (2, .slice none 0 0), (3, l5)]) Try.underlying22 rfl (by decide) zero25 (by decide) (by simp only [List.map_toArray, List.map_cons, List.map_nil, x_f37_0, x_f37_1, x_f37_2, x_f37_3, x_f50_0, x_f50_1, x_f66_0, x_f66_1, x_f66_2, x_load3, x_load4, x_load9, x_load22, x_load25, x_load51, x_load63, x_load64, x_load71, x_load37, x_load50, x_index25, x_index22, x_index39, x_index62, x_len25, x_len22, x_len39, x_len62, x_extract, x_not, x_move, x_assign, x_pick, x_bin, ev, put_some, upd, args1, args2, args3, args4, fieldL_some, loadL_some, lenL_slice, extL, notL_bool, bin_lssS, bin_eqlS, bin_neqS, bin_lss, bin_leq, bin_gtr, bin_geq, bin_eql, bin_neq, bin_neq37, bin_neq50, bin_add, bin_sub, pickL_true, pickL_false, Addr.add, ↓reduceIte, Nat.reduceLT, Nat.reduceEqDiff, Nat.zero_add, Nat.reduceAdd, Option.map_some, opThen_some, List.getElem_toArray, List.getElem_cons_zero, List.getElem_cons_succ]) (fun c0 h0 => fill_four1 rfl cA rfl cB h0) ?_
    intro m6 O6 w6 h6
    have k06 := k05.trans h6.rel.keep
    have s6 : Sl2 (ldOf x0 O6 w6) (.slice (some ⟨m6, 0, none⟩) 4 4) [[], refMergeL (C.take kk), [], refMergeL (C.drop kk)] := ⟨[.slice none 0 0, l4, .slice none 0 0, l5], h6.four, rfl, fun i u l hu hl => by
      rcases i with _ | _ | _ | _ | i
      · simp at hu hl; subst hu hl; exact .inl ⟨rfl, _, _, rfl⟩
      · simp at hu hl; subst hu hl; exact h4l5.rely h6.rel
      · simp at hu hl; subst hu hl; exact .inl ⟨rfl, _, _, rfl⟩
      · simp at hu hl; subst hu hl; exact h5l.rely h6.rel
      · simp at hu⟩
    have fl : ([[], refMergeL (C.take kk), [], refMergeL (C.drop kk)] : List (List Ent)).flatten.length < 100000 := by simp; omega
    refine t_callA #[.slice (some ⟨m6, 0, none⟩) 4 4] (by decide) Try.func10 nm10 rfl (by simp only [List.map_toArray, List.map_cons, List.map_nil, x_f37_0, x_f37_1, x_f37_2, x_f37_3, x_f50_0, x_f50_1, x_f66_0, x_f66_1, x_f66_2, x_load3, x_load4, x_load9, x_load22, x_load25, x_load51, x_load63, x_load64, x_load71, x_load37, x_load50, x_index25, x_index22, x_index39, x_index62, x_len25, x_len22, x_len39, x_len62, x_extract, x_not, x_move, x_assign, x_pick, x_bin, ev, put_some, upd, args1, args2, args3, args4, fieldL_some, loadL_some, lenL_slice, extL, notL_bool, bin_lssS, bin_eqlS, bin_neqS, bin_lss, bin_leq, bin_gtr, bin_geq, bin_eql, bin_neq, bin_neq37, bin_neq50, bin_add, bin_sub, pickL_true, pickL_false, Addr.add, ↓reduceIte, Nat.reduceLT, Nat.reduceEqDiff, Nat.zero_add, Nat.reduceAdd, Option.map_some, opThen_some, List.getElem_toArray, List.getElem_cons_zero, List.getElem_cons_succ]) ?_
    intro c6 hret
    refine Merge_M [[], refMergeL (C.take kk), [], refMergeL (C.drop kk)] _ O6 w6 c6 [] s6 (k06.deaf.trans hd) (by simp) (fun l hl => by
      simp only [List.mem_cons, List.not_mem_nil, or_false] at hl
      rcases hl with rfl | rfl | rfl | rfl <;> first | (simp; done) | omega) (by rw [total_flat]; exact fl) (fun _ O7 w7 l7 m7 k7 hb7 _ _ => hret _ O7 w7 ?_) (fun h => by rw [good_four] at h; cases h)
    clear hret
    rw [mergeL_eq (good_four C kk) fl, parts_ref] at hb7
    have hs7 := (hs5.rely h6.rel).mono k7.know
    have h7l : SlE (ldOf x0 O7 w7) l7 (refMergeL C) := hb7.sl
    have k07 := k06.trans k7
    repeat (first
      | (refine t_skG rfl (by decide) rfl ?_)
      | (refine t_skU rfl (by decide) rfl ?_)
      | (first | refine t_rdG (by decide) rfl (by decide) rfl (fun K hK => ?_) | refine t_rd (by decide) (fun K hK => ?_)
         simp only [x_f37_0, x_f37_1, x_f37_2, x_f37_3, x_f50_0, x_f50_1, x_f66_0, x_f66_1, x_f66_2, x_load3, x_load4, x_load9, x_load22, x_load25, x_load51, x_load63, x_load64, x_load71, x_load37, x_load50, x_index25, x_index22, x_index39, x_index62, x_len25, x_len22, x_len39, x_len62, x_extract, x_not, x_move, x_assign, x_pick, x_bin, ev, put_some, upd, args1, args2, args3, args4, fieldL_some, loadL_some, lenL_slice, extL, notL_bool, bin_lssS, bin_eqlS, bin_neqS, bin_lss, bin_leq, bin_gtr, bin_geq, bin_eql, bin_neq, bin_neq37, bin_neq50, bin_add, bin_sub, pickL_true, pickL_false, Addr.add, ↓reduceIte, Nat.reduceLT, Nat.reduceEqDiff, Nat.zero_add, Nat.reduceAdd, Option.map_some, opThen_some, List.getElem_toArray, List.getElem_cons_zero, List.getElem_cons_succ]
         refine hK _ ?_
         clear hK K))
    refine t_done ?_
    -- all
    refine t_seq ?_
    refine t_region ?_
    iterate 1 (first
      | (refine t_skG rfl (by decide) rfl ?_)
      | (refine t_skU rfl (by decide) rfl ?_)
      | (first | refine t_rdG (by decide) rfl (by decide) rfl (fun K hK => ?_) | refine t_rd (by decide) (fun K hK => ?_)
         simp only [x_f37_0, x_f37_1, x_f37_2, x_f37_3, x_f50_0, x_f50_1, x_f66_0, x_f66_1, x_f66_2, x_load3, x_load4, x_load9, x_load22, x_load25, x_load51, x_load63, x_load64, x_load71, x_load37, x_load50, x_index25, x_index22, x_index39, x_index62, x_len25, x_len22, x_len39, x_len62, x_extract, x_not, x_move, x_assign, x_pick, x_bin, ev, put_some, upd, args1, args2, args3, args4, fieldL_some, loadL_some, lenL_slice, extL, notL_bool, bin_lssS, bin_eqlS, bin_neqS, bin_lss, bin_leq, bin_gtr, bin_geq, bin_eql, bin_neq, bin_neq37, bin_neq50, bin_add, bin_sub, pickL_true, pickL_false, Addr.add, ↓reduceIte, Nat.reduceLT, Nat.reduceEqDiff, Nat.zero_add, Nat.reduceAdd, Option.map_some, opThen_some, List.getElem_toArray, List.getElem_cons_zero, List.getElem_cons_succ]
         refine hK _ ?_
         clear hK K))
    refine t_callA #[s] (by decide) Try.func10 nm10 rfl (by simp only [List.map_toArray, List.map_cons, List.map_nil, x_f37_0, x_f37_1, x_f37_2, x_f37_3, x_f50_0, x_f50_1, x_f66_0, x_f66_1, x_f66_2, x_load3, x_load4, x_load9, x_load22, x_load25, x_load51, x_load63, x_load64, x_load71, x_load37, x_load50, x_index25, x_index22, x_index39, x_index62, x_len25, x_len22, x_len39, x_len62, x_extract, x_not, x_move, x_assign, x_pick, x_bin, ev, put_some, upd, args1, args2, args3, args4, fieldL_some, loadL_some, lenL_slice, extL, notL_bool, bin_lssS, bin_eqlS, bin_neqS, bin_lss, bin_leq, bin_gtr, bin_geq, bin_eql, bin_neq, bin_neq37, bin_neq50, bin_add, bin_sub, pickL_true, pickL_false, Addr.add, ↓reduceIte, Nat.reduceLT, Nat.reduceEqDiff, Nat.zero_add, Nat.reduceAdd, Option.map_some, opThen_some, List.getElem_toArray, List.getElem_cons_zero, List.getElem_cons_succ]) ?_
    intro c7 hret
    refine Merge_M C s O7 w7 c7 [] hs7 (k07.deaf.trans hd) b1 b2 b3 (fun _ O8 w8 l8 m8 k8 hb8 _ _ => hret _ O8 w8 ?_) (fun h => by rw [hg] at h; cases h)
    clear hret
    rw [mergeL_eq hg (by omega)] at hb8
    have h8l : SlE (ldOf x0 O8 w8) l8 (refMergeL C) := hb8.sl
    have h7l8 : SlE (ldOf x0 O8 w8) l7 (refMergeL C) := Sl.mono h7l k8.know
    have k08 := k07.trans k8
    repeat (first
      | (refine t_skG rfl (by decide) rfl ?_)
      | (refine t_skU rfl (by decide) rfl ?_)
      | (first | refine t_rdG (by decide) rfl (by decide) rfl (fun K hK => ?_) | refine t_rd (by decide) (fun K hK => ?_)
         simp only [x_f37_0, x_f37_1, x_f37_2, x_f37_3, x_f50_0, x_f50_1, x_f66_0, x_f66_1, x_f66_2, x_load3, x_load4, x_load9, x_load22, x_load25, x_load51, x_load63, x_load64, x_load71, x_load37, x_load50, x_index25, x_index22, x_index39, x_index62, x_len25, x_len22, x_len39, x_len62, x_extract, x_not, x_move, x_assign, x_pick, x_bin, ev, put_some, upd, args1, args2, args3, args4, fieldL_some, loadL_some, lenL_slice, extL, notL_bool, bin_lssS, bin_eqlS, bin_neqS, bin_lss, bin_leq, bin_gtr, bin_geq, bin_eql, bin_neq, bin_neq37, bin_neq50, bin_add, bin_sub, pickL_true, pickL_false, Addr.add, ↓reduceIte, Nat.reduceLT, Nat.reduceEqDiff, Nat.zero_add, Nat.reduceAdd, Option.map_some, opThen_some, List.getElem_toArray, List.getElem_cons_zero, List.getElem_cons_succ]
         refine hK _ ?_
         clear hK K))
    refine t_done ?_
    -- compared
    have q0 : ((0 : Int) != 0) = false := by decide
    refine t_seq ?_
    refine t_seq ?_
    refine t_region ?_
    iterate 17 (first
      | (refine t_skG rfl (by decide) rfl ?_)
      | (refine t_skU rfl (by decide) rfl ?_)
      | (first | refine t_rdG (by decide) rfl (by decide) rfl (fun K hK => ?_) | refine t_rd (by decide) (fun K hK => ?_)
         simp only [x_f37_0, x_f37_1, x_f37_2, x_f37_3, x_f50_0, x_f50_1, x_f66_0, x_f66_1, x_f66_2, x_load3, x_load4, x_load9, x_load22, x_load25, x_load51, x_load63, x_load64, x_load71, x_load37, x_load50, x_index25, x_index22, x_index39, x_index62, x_len25, x_len22, x_len39, x_len62, x_extract, x_not, x_move, x_assign, x_pick, x_bin, ev, put_some, upd, args1, args2, args3, args4, fieldL_some, loadL_some, lenL_slice, extL, notL_bool, bin_lssS, bin_eqlS, bin_neqS, bin_lss, bin_leq, bin_gtr, bin_geq, bin_eql, bin_neq, bin_neq37, bin_neq50, bin_add, bin_sub, pickL_true, pickL_false, Addr.add, ↓reduceIte, Nat.reduceLT, Nat.reduceEqDiff, Nat.zero_add, Nat.reduceAdd, Option.map_some, opThen_some, List.getElem_toArray, List.getElem_cons_zero, List.getElem_cons_succ, q0]
         refine hK _ ?_
         clear hK K))
    refine t_callG #[l7, l8] (by decide) rfl (by decide) rfl Try.func14 nm14 rfl (by simp only [List.map_toArray, List.map_cons, List.map_nil, x_f37_0, x_f37_1, x_f37_2, x_f37_3, x_f50_0, x_f50_1, x_f66_0, x_f66_1, x_f66_2, x_load3, x_load4, x_load9, x_load22, x_load25, x_load51, x_load63, x_load64, x_load71, x_load37, x_load50, x_index25, x_index22, x_index39, x_index62, x_len25, x_len22, x_len39, x_len62, x_extract, x_not, x_move, x_assign, x_pick, x_bin, ev, put_some, upd, args1, args2, args3, args4, fieldL_some, loadL_some, lenL_slice, extL, notL_bool, bin_lssS, bin_eqlS, bin_neqS, bin_lss, bin_leq, bin_gtr, bin_geq, bin_eql, bin_neq, bin_neq37, bin_neq50, bin_add, bin_sub, pickL_true, pickL_false, Addr.add, ↓reduceIte, Nat.reduceLT, Nat.reduceEqDiff, Nat.zero_add, Nat.reduceAdd, Option.map_some, opThen_some, List.getElem_toArray, List.getElem_cons_zero, List.getElem_cons_succ]) ?_
    intro c9 hret
    refine Same_M (refMergeL C) (refMergeL C) l7 l8 O8 w8 c9 [] h7l8 h8l (by omega) fun O9 w9 r9 => hret _ O9 w9 ?_
    clear hret
    rw [sameL_self]
    repeat (first
      | (refine t_skG rfl (by decide) rfl ?_)
      | (refine t_skU rfl (by decide) rfl ?_)
      | (first | refine t_rdG (by decide) rfl (by decide) rfl (fun K hK => ?_) | refine t_rd (by decide) (fun K hK => ?_)
         simp only [x_f37_0, x_f37_1, x_f37_2, x_f37_3, x_f50_0, x_f50_1, x_f66_0, x_f66_1, x_f66_2, x_load3, x_load4, x_load9, x_load22, x_load25, x_load51, x_load63, x_load64, x_load71, x_load37, x_load50, x_index25, x_index22, x_index39, x_index62, x_len25, x_len22, x_len39, x_len62, x_extract, x_not, x_move, x_assign, x_pick, x_bin, ev, put_some, upd, args1, args2, args3, args4, fieldL_some, loadL_some, lenL_slice, extL, notL_bool, bin_lssS, bin_eqlS, bin_neqS, bin_lss, bin_leq, bin_gtr, bin_geq, bin_eql, bin_neq, bin_neq37, bin_neq50, bin_add, bin_sub, pickL_true, pickL_false, Addr.add, ↓reduceIte, Nat.reduceLT, Nat.reduceEqDiff, Nat.zero_add, Nat.reduceAdd, Option.map_some, opThen_some, List.getElem_toArray, List.getElem_cons_zero, List.getElem_cons_succ]
         refine hK _ ?_
         clear hK K))
    refine t_done ?_
    refine t_false rfl ?_
    refine t_skip ?_
    have h9l := h8l.rely r9
    have k09 := k08.trans r9.keep
    have hsrt : Srt (refMergeL C) := (refMerge_spec C).1
    generalize hR : refMergeL C = R at *
    have hl9 := h9l.len
    -- one after the other
    refine t_seq ?_
    refine t_seq ?_
    refine t_region ?_
    repeat (first
      | (refine t_skG rfl (by decide) rfl ?_)
      | (refine t_skU rfl (by decide) rfl ?_)
      | (first | refine t_rdG (by decide) rfl (by decide) rfl (fun K hK => ?_) | refine t_rd (by decide) (fun K hK => ?_)
         simp only [x_f37_0, x_f37_1, x_f37_2, x_f37_3, x_f50_0, x_f50_1, x_f66_0, x_f66_1, x_f66_2, x_load3, x_load4, x_load9, x_load22, x_load25, x_load51, x_load63, x_load64, x_load71, x_load37, x_load50, x_index25, x_index22, x_index39, x_index62, x_len25, x_len22, x_len39, x_len62, x_extract, x_not, x_move, x_assign, x_pick, x_bin, ev, put_some, upd, args1, args2, args3, args4, fieldL_some, loadL_some, lenL_slice, extL, notL_bool, bin_lssS, bin_eqlS, bin_neqS, bin_lss, bin_leq, bin_gtr, bin_geq, bin_eql, bin_neq, bin_neq37, bin_neq50, bin_add, bin_sub, pickL_true, pickL_false, Addr.add, ↓reduceIte, Nat.reduceLT, Nat.reduceEqDiff, Nat.zero_add, Nat.reduceAdd, Option.map_some, opThen_some, List.getElem_toArray, List.getElem_cons_zero, List.getElem_cons_succ, hl9]
         refine hK _ ?_
         clear hK K))
    refine t_done ?_
    refine t_block ?_
    refine t_loop ?_
    refine t_while (fun m f O' w' => Rel x0 O9 w9 O' w' ∧ f 14 = l8 ∧ f 86 = .int .i64 (R.length : Int) ∧ ∃ j : Nat, f 87 = .int .i64 (j : Int) ∧ m = R.length - j ∧ j ≤ R.length) R.length ⟨Rel.refl _ _ _, rfl, rfl, 0, rfl, rfl, Nat.zero_le _⟩ ?_
    rintro m f Oa wa ⟨ra, hf14, hf86, j, hf87, hm, hj⟩ ih
    have hva := h9l.rely ra
    have hw2 : IntKind.i64.wrap ((j : Int) + 1) = ((j + 1 : Nat) : Int) := by rw [wrap64] <;> omega
    refine t_seq ?_
    refine t_region ?_
    by_cases hlt : j < R.length
    · have hdj : decide ((j : Int) < (R.length : Int)) = true := by simp; omega
      repeat (first
        | (refine t_skG rfl (by decide) rfl ?_)
        | (refine t_skU rfl (by decide) rfl ?_)
        | (first | refine t_rdG (by decide) rfl (by decide) rfl (fun K hK => ?_) | refine t_rd (by decide) (fun K hK => ?_)
           simp only [x_f37_0, x_f37_1, x_f37_2, x_f37_3, x_f50_0, x_f50_1, x_f66_0, x_f66_1, x_f66_2, x_load3, x_load4, x_load9, x_load22, x_load25, x_load51, x_load63, x_load64, x_load71, x_load37, x_load50, x_index25, x_index22, x_index39, x_index62, x_len25, x_len22, x_len39, x_len62, x_extract, x_not, x_move, x_assign, x_pick, x_bin, ev, put_some, upd, args1, args2, args3, args4, fieldL_some, loadL_some, lenL_slice, extL, notL_bool, bin_lssS, bin_eqlS, bin_neqS, bin_lss, bin_leq, bin_gtr, bin_geq, bin_eql, bin_neq, bin_neq37, bin_neq50, bin_add, bin_sub, pickL_true, pickL_false, Addr.add, ↓reduceIte, Nat.reduceLT, Nat.reduceEqDiff, Nat.zero_add, Nat.reduceAdd, Option.map_some, opThen_some, List.getElem_toArray, List.getElem_cons_zero, List.getElem_cons_succ, hf86, hf87, hdj]
           refine hK _ ?_
           clear hK K))
      refine t_done ?_
      refine t_seq ?_
      refine t_true rfl ?_
      refine t_skip ?_
      refine t_seq ?_
      refine t_block ?_
      refine t_seq ?_
      refine t_region ?_
      repeat (first
        | (refine t_skG rfl (by decide) rfl ?_)
        | (refine t_skU rfl (by decide) rfl ?_)
        | (first | refine t_rdG (by decide) rfl (by decide) rfl (fun K hK => ?_) | refine t_rd (by decide) (fun K hK => ?_)
           simp only [x_f37_0, x_f37_1, x_f37_2, x_f37_3, x_f50_0, x_f50_1, x_f66_0, x_f66_1, x_f66_2, x_load3, x_load4, x_load9, x_load22, x_load25, x_load51, x_load63, x_load64, x_load71, x_load37, x_load50, x_index25, x_index22, x_index39, x_index62, x_len25, x_len22, x_len39, x_len62, x_extract, x_not, x_move, x_assign, x_pick, x_bin, ev, put_some, upd, args1, args2, args3, args4, fieldL_some, loadL_some, lenL_slice, extL, notL_bool, bin_lssS, bin_eqlS, bin_neqS, bin_lss, bin_leq, bin_gtr, bin_geq, bin_eql, bin_neq, bin_neq37, bin_neq50, bin_add, bin_sub, pickL_true, pickL_false, Addr.add, ↓reduceIte, Nat.reduceLT, Nat.reduceEqDiff, Nat.zero_add, Nat.reduceAdd, Option.map_some, opThen_some, List.getElem_toArray, List.getElem_cons_zero, List.getElem_cons_succ, hf87]
           refine hK _ ?_
           clear hK K))
      refine t_done ?_
      refine t_seq ?_
      by_cases hj0 : j = 0
      · subst hj0
        have hd0 : decide ((0 : Int) < ((0 : Nat) : Int)) = false := by decide
        refine t_drawn rfl (by decide) ?_
        repeat (first
          | (refine d_skG rfl (by decide) rfl ?_)
          | (refine d_skU rfl (by decide) rfl ?_)
          | (first | refine d_rdG rfl (by decide) rfl (fun K hK => ?_) | refine d_rd (fun K hK => ?_)
             simp only [x_f37_0, x_f37_1, x_f37_2, x_f37_3, x_f50_0, x_f50_1, x_f66_0, x_f66_1, x_f66_2, x_load3, x_load4, x_load9, x_load22, x_load25, x_load51, x_load63, x_load64, x_load71, x_load37, x_load50, x_index25, x_index22, x_index39, x_index62, x_len25, x_len22, x_len39, x_len62, x_extract, x_not, x_move, x_assign, x_pick, x_bin, ev, put_some, upd, args1, args2, args3, args4, fieldL_some, loadL_some, lenL_slice, extL, notL_bool, bin_lssS, bin_eqlS, bin_neqS, bin_lss, bin_leq, bin_gtr, bin_geq, bin_eql, bin_neq, bin_neq37, bin_neq50, bin_add, bin_sub, pickL_true, pickL_false, Addr.add, ↓reduceIte, Nat.reduceLT, Nat.reduceEqDiff, Nat.zero_add, Nat.reduceAdd, Option.map_some, opThen_some, List.getElem_toArray, List.getElem_cons_zero, List.getElem_cons_succ, hd0]
             refine hK _ ?_
             clear hK K))
        refine d_done ?_
        intro Ob wb rb
        refine t_false (by first | (simp only [x_f37_0, x_f37_1, x_f37_2, x_f37_3, x_f50_0, x_f50_1, x_f66_0, x_f66_1, x_f66_2, x_load3, x_load4, x_load9, x_load22, x_load25, x_load51, x_load63, x_load64, x_load71, x_load37, x_load50, x_index25, x_index22, x_index39, x_index62, x_len25, x_len22, x_len39, x_len62, x_extract, x_not, x_move, x_assign, x_pick, x_bin, ev, put_some, upd, args1, args2, args3, args4, fieldL_some, loadL_some, lenL_slice, extL, notL_bool, bin_lssS, bin_eqlS, bin_neqS, bin_lss, bin_leq, bin_gtr, bin_geq, bin_eql, bin_neq, bin_neq37, bin_neq50, bin_add, bin_sub, pickL_true, pickL_false, Addr.add, ↓reduceIte, Nat.reduceLT, Nat.reduceEqDiff, Nat.zero_add, Nat.reduceAdd, Option.map_some, opThen_some, List.getElem_toArray, List.getElem_cons_zero, List.getElem_cons_succ]; done) | (simp only [x_f37_0, x_f37_1, x_f37_2, x_f37_3, x_f50_0, x_f50_1, x_f66_0, x_f66_1, x_f66_2, x_load3, x_load4, x_load9, x_load22, x_load25, x_load51, x_load63, x_load64, x_load71, x_load37, x_load50, x_index25, x_index22, x_index39, x_index62, x_len25, x_len22, x_len39, x_len62, x_extract, x_not, x_move, x_assign, x_pick, x_bin, ev, put_some, upd, args1, args2, args3, args4, fieldL_some, loadL_some, lenL_slice, extL, notL_bool, bin_lssS, bin_eqlS, bin_neqS, bin_lss, bin_leq, bin_gtr, bin_geq, bin_eql, bin_neq, bin_neq37, bin_neq50, bin_add, bin_sub, pickL_true, pickL_false, Addr.add, ↓reduceIte, Nat.reduceLT, Nat.reduceEqDiff, Nat.zero_add, Nat.reduceAdd, Option.map_some, opThen_some, List.getElem_toArray, List.getElem_cons_zero, List.getElem_cons_succ]; rfl)) ?_
        refine t_skip ?_
        refine t_inBlock ?_
        refine t_region ?_
        repeat (first
          | (refine t_skG rfl (by decide) rfl ?_)
          | (refine t_skU rfl (by decide) rfl ?_)
          | (first | refine t_rdG (by decide) rfl (by decide) rfl (fun K hK => ?_) | refine t_rd (by decide) (fun K hK => ?_)
             simp only [x_f37_0, x_f37_1, x_f37_2, x_f37_3, x_f50_0, x_f50_1, x_f66_0, x_f66_1, x_f66_2, x_load3, x_load4, x_load9, x_load22, x_load25, x_load51, x_load63, x_load64, x_load71, x_load37, x_load50, x_index25, x_index22, x_index39, x_index62, x_len25, x_len22, x_len39, x_len62, x_extract, x_not, x_move, x_assign, x_pick, x_bin, ev, put_some, upd, args1, args2, args3, args4, fieldL_some, loadL_some, lenL_slice, extL, notL_bool, bin_lssS, bin_eqlS, bin_neqS, bin_lss, bin_leq, bin_gtr, bin_geq, bin_eql, bin_neq, bin_neq37, bin_neq50, bin_add, bin_sub, pickL_true, pickL_false, Addr.add, ↓reduceIte, Nat.reduceLT, Nat.reduceEqDiff, Nat.zero_add, Nat.reduceAdd, Option.map_some, opThen_some, List.getElem_toArray, List.getElem_cons_zero, List.getElem_cons_succ, hf87, hw2]
             refine hK _ ?_
             clear hK K))
        refine t_done ?_
        refine t_inLoop ?_
        exact ih (R.length - (0 + 1)) _ Ob wb (by omega) ⟨ra.trans rb, hf14, hf86, 0 + 1, rfl, rfl, by omega⟩
      · obtain ⟨j', rfl⟩ : ∃ j', j = j' + 1 := ⟨j - 1, by omega⟩
        have hd0 : decide ((0 : Int) < ((j' + 1 : Nat) : Int)) = true := decide_eq_true (by omega)
        have hw1 : IntKind.i64.wrap (((j' + 1 : Nat) : Int) - 1) = (j' : Int) := by rw [wrap64] <;> omega
        obtain ⟨A, hA⟩ := hva.at (List.getElem?_eq_getElem (show j' < R.length by omega))
        obtain ⟨B, hB⟩ := hva.at (List.getElem?_eq_getElem hlt)
        have iA := hA.idx
        have iB := hB.idx
        have wA := hA.whole
        have wB := hB.whole
        have hbe : bef R[j'] R[j' + 1] = true := srt_at hsrt (List.getElem?_eq_getElem (by omega)) (List.getElem?_eq_getElem hlt)
        refine t_drawn rfl (by decide) ?_
        iterate 12 (first
          | (refine d_skG rfl (by decide) rfl ?_)
          | (refine d_skU rfl (by decide) rfl ?_)
          | (first | refine d_rdG rfl (by decide) rfl (fun K hK => ?_) | refine d_rd (fun K hK => ?_)
             simp only [x_f37_0, x_f37_1, x_f37_2, x_f37_3, x_f50_0, x_f50_1, x_f66_0, x_f66_1, x_f66_2, x_load3, x_load4, x_load9, x_load22, x_load25, x_load51, x_load63, x_load64, x_load71, x_load37, x_load50, x_index25, x_index22, x_index39, x_index62, x_len25, x_len22, x_len39, x_len62, x_extract, x_not, x_move, x_assign, x_pick, x_bin, ev, put_some, upd, args1, args2, args3, args4, fieldL_some, loadL_some, lenL_slice, extL, notL_bool, bin_lssS, bin_eqlS, bin_neqS, bin_lss, bin_leq, bin_gtr, bin_geq, bin_eql, bin_neq, bin_neq37, bin_neq50, bin_add, bin_sub, pickL_true, pickL_false, Addr.add, ↓reduceIte, Nat.reduceLT, Nat.reduceEqDiff, Nat.zero_add, Nat.reduceAdd, Option.map_some, opThen_some, List.getElem_toArray, List.getElem_cons_zero, List.getElem_cons_succ, hd0, hf14, hw1, iA, iB, wA, wB]
             refine hK _ ?_
             clear hK K))
        refine d_call0 (v := .bool (bef R[j'] R[j' + 1])) (vals := #[R[j'].v, R[j' + 1].v]) (by decide) (wanted_of (j := 2) (d := 92) (t := true) (z := true) rfl rfl (by decide) rfl) rfl Try.func15 rfl rfl (by simp only [List.map_toArray, List.map_cons, List.map_nil, x_f37_0, x_f37_1, x_f37_2, x_f37_3, x_f50_0, x_f50_1, x_f66_0, x_f66_1, x_f66_2, x_load3, x_load4, x_load9, x_load22, x_load25, x_load51, x_load63, x_load64, x_load71, x_load37, x_load50, x_index25, x_index22, x_index39, x_index62, x_len25, x_len22, x_len39, x_len62, x_extract, x_not, x_move, x_assign, x_pick, x_bin, ev, put_some, upd, args1, args2, args3, args4, fieldL_some, loadL_some, lenL_slice, extL, notL_bool, bin_lssS, bin_eqlS, bin_neqS, bin_lss, bin_leq, bin_gtr, bin_geq, bin_eql, bin_neq, bin_neq37, bin_neq50, bin_add, bin_sub, pickL_true, pickL_false, Addr.add, ↓reduceIte, Nat.reduceLT, Nat.reduceEqDiff, Nat.zero_add, Nat.reduceAdd, Option.map_some, opThen_some, List.getElem_toArray, List.getElem_cons_zero, List.getElem_cons_succ]) ?_ ?_
        · intro c2 Oc wc rc hc
          exact Before_M R[j'] R[j' + 1] Oc wc c2 _ hc
        ·
          rw [hbe]
          repeat (first
            | (refine d_skG rfl (by decide) rfl ?_)
            | (refine d_skU rfl (by decide) rfl ?_)
            | (first | refine d_rdG rfl (by decide) rfl (fun K hK => ?_) | refine d_rd (fun K hK => ?_)
               simp only [x_f37_0, x_f37_1, x_f37_2, x_f37_3, x_f50_0, x_f50_1, x_f66_0, x_f66_1, x_f66_2, x_load3, x_load4, x_load9, x_load22, x_load25, x_load51, x_load63, x_load64, x_load71, x_load37, x_load50, x_index25, x_index22, x_index39, x_index62, x_len25, x_len22, x_len39, x_len62, x_extract, x_not, x_move, x_assign, x_pick, x_bin, ev, put_some, upd, args1, args2, args3, args4, fieldL_some, loadL_some, lenL_slice, extL, notL_bool, bin_lssS, bin_eqlS, bin_neqS, bin_lss, bin_leq, bin_gtr, bin_geq, bin_eql, bin_neq, bin_neq37, bin_neq50, bin_add, bin_sub, pickL_true, pickL_false, Addr.add, ↓reduceIte, Nat.reduceLT, Nat.reduceEqDiff, Nat.zero_add, Nat.reduceAdd, Option.map_some, opThen_some, List.getElem_toArray, List.getElem_cons_zero, List.getElem_cons_succ]
               refine hK _ ?_
               clear hK K))
          refine d_done ?_
          intro Ob wb rb
          refine t_false (by first | (simp only [x_f37_0, x_f37_1, x_f37_2, x_f37_3, x_f50_0, x_f50_1, x_f66_0, x_f66_1, x_f66_2, x_load3, x_load4, x_load9, x_load22, x_load25, x_load51, x_load63, x_load64, x_load71, x_load37, x_load50, x_index25, x_index22, x_index39, x_index62, x_len25, x_len22, x_len39, x_len62, x_extract, x_not, x_move, x_assign, x_pick, x_bin, ev, put_some, upd, args1, args2, args3, args4, fieldL_some, loadL_some, lenL_slice, extL, notL_bool, bin_lssS, bin_eqlS, bin_neqS, bin_lss, bin_leq, bin_gtr, bin_geq, bin_eql, bin_neq, bin_neq37, bin_neq50, bin_add, bin_sub, pickL_true, pickL_false, Addr.add, ↓reduceIte, Nat.reduceLT, Nat.reduceEqDiff, Nat.zero_add, Nat.reduceAdd, Option.map_some, opThen_some, List.getElem_toArray, List.getElem_cons_zero, List.getElem_cons_succ]; done) | (simp only [x_f37_0, x_f37_1, x_f37_2, x_f37_3, x_f50_0, x_f50_1, x_f66_0, x_f66_1, x_f66_2, x_load3, x_load4, x_load9, x_load22, x_load25, x_load51, x_load63, x_load64, x_load71, x_load37, x_load50, x_index25, x_index22, x_index39, x_index62, x_len25, x_len22, x_len39, x_len62, x_extract, x_not, x_move, x_assign, x_pick, x_bin, ev, put_some, upd, args1, args2, args3, args4, fieldL_some, loadL_some, lenL_slice, extL, notL_bool, bin_lssS, bin_eqlS, bin_neqS, bin_lss, bin_leq, bin_gtr, bin_geq, bin_eql, bin_neq, bin_neq37, bin_neq50, bin_add, bin_sub, pickL_true, pickL_false, Addr.add, ↓reduceIte, Nat.reduceLT, Nat.reduceEqDiff, Nat.zero_add, Nat.reduceAdd, Option.map_some, opThen_some, List.getElem_toArray, List.getElem_cons_zero, List.getElem_cons_succ]; rfl)) ?_
          refine t_skip ?_
          refine t_inBlock ?_
          refine t_region ?_
          repeat (first
            | (refine t_skG rfl (by decide) rfl ?_)
            | (refine t_skU rfl (by decide) rfl ?_)
            | (first | refine t_rdG (by decide) rfl (by decide) rfl (fun K hK => ?_) | refine t_rd (by decide) (fun K hK => ?_)
               simp only [x_f37_0, x_f37_1, x_f37_2, x_f37_3, x_f50_0, x_f50_1, x_f66_0, x_f66_1, x_f66_2, x_load3, x_load4, x_load9, x_load22, x_load25, x_load51, x_load63, x_load64, x_load71, x_load37, x_load50, x_index25, x_index22, x_index39, x_index62, x_len25, x_len22, x_len39, x_len62, x_extract, x_not, x_move, x_assign, x_pick, x_bin, ev, put_some, upd, args1, args2, args3, args4, fieldL_some, loadL_some, lenL_slice, extL, notL_bool, bin_lssS, bin_eqlS, bin_neqS, bin_lss, bin_leq, bin_gtr, bin_geq, bin_eql, bin_neq, bin_neq37, bin_neq50, bin_add, bin_sub, pickL_true, pickL_false, Addr.add, ↓reduceIte, Nat.reduceLT, Nat.reduceEqDiff, Nat.zero_add, Nat.reduceAdd, Option.map_some, opThen_some, List.getElem_toArray, List.getElem_cons_zero, List.getElem_cons_succ, hf87, hw2]
               refine hK _ ?_
               clear hK K))
          refine t_done ?_
          refine t_inLoop ?_
          exact ih (R.length - (j' + 1 + 1)) _ Ob wb (by omega) ⟨ra.trans rb, hf14, hf86, j' + 1 + 1, rfl, rfl, by omega⟩
    · have hdj : decide ((j : Int) < (R.length : Int)) = false := by simp; omega
      repeat (first
        | (refine t_skG rfl (by decide) rfl ?_)
        | (refine t_skU rfl (by decide) rfl ?_)
        | (first | refine t_rdG (by decide) rfl (by decide) rfl (fun K hK => ?_) | refine t_rd (by decide) (fun K hK => ?_)
           simp only [x_f37_0, x_f37_1, x_f37_2, x_f37_3, x_f50_0, x_f50_1, x_f66_0, x_f66_1, x_f66_2, x_load3, x_load4, x_load9, x_load22, x_load25, x_load51, x_load63, x_load64, x_load71, x_load37, x_load50, x_index25, x_index22, x_index39, x_index62, x_len25, x_len22, x_len39, x_len62, x_extract, x_not, x_move, x_assign, x_pick, x_bin, ev, put_some, upd, args1, args2, args3, args4, fieldL_some, loadL_some, lenL_slice, extL, notL_bool, bin_lssS, bin_eqlS, bin_neqS, bin_lss, bin_leq, bin_gtr, bin_geq, bin_eql, bin_neq, bin_neq37, bin_neq50, bin_add, bin_sub, pickL_true, pickL_false, Addr.add, ↓reduceIte, Nat.reduceLT, Nat.reduceEqDiff, Nat.zero_add, Nat.reduceAdd, Option.map_some, opThen_some, List.getElem_toArray, List.getElem_cons_zero, List.getElem_cons_succ, hf86, hf87, hdj]
           refine hK _ ?_
           clear hK K))
      refine t_done ?_
      refine t_seq ?_
      refine t_false rfl ?_
      refine t_exit rfl ?_
      refine t_seq ?_
      refine t_region ?_
      repeat (first
        | (refine t_skG rfl (by decide) rfl ?_)
        | (refine t_skU rfl (by decide) rfl ?_)
        | (first | refine t_rdG (by decide) rfl (by decide) rfl (fun K hK => ?_) | refine t_rd (by decide) (fun K hK => ?_)
           simp only [x_f37_0, x_f37_1, x_f37_2, x_f37_3, x_f50_0, x_f50_1, x_f66_0, x_f66_1, x_f66_2, x_load3, x_load4, x_load9, x_load22, x_load25, x_load51, x_load63, x_load64, x_load71, x_load37, x_load50, x_index25, x_index22, x_index39, x_index62, x_len25, x_len22, x_len39, x_len62, x_extract, x_not, x_move, x_assign, x_pick, x_bin, ev, put_some, upd, args1, args2, args3, args4, fieldL_some, loadL_some, lenL_slice, extL, notL_bool, bin_lssS, bin_eqlS, bin_neqS, bin_lss, bin_leq, bin_gtr, bin_geq, bin_eql, bin_neq, bin_neq37, bin_neq50, bin_add, bin_sub, pickL_true, pickL_false, Addr.add, ↓reduceIte, Nat.reduceLT, Nat.reduceEqDiff, Nat.zero_add, Nat.reduceAdd, Option.map_some, opThen_some, List.getElem_toArray, List.getElem_cons_zero, List.getElem_cons_succ]
           refine hK _ ?_
           clear hK K))
      refine t_done ?_
      refine t_ret ?_
      have ka := k09.trans ra.keep
      exact t_final Try.func4 rfl (by decide) rfl (ka.deaf.trans hd) fun Ob wb rb => hpost Ob wb (ka.trans rb.keep)
end Go.Proofs.Ytdajdembeacefaa.M

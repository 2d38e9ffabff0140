/-
  FIRST, its second loop: a sender for each list; its first entry is received.
-/
import Derived.Test.YtdajdembeacefaaAQ
set_option linter.unusedSimpArgs false
set_option linter.unusedVariables false
namespace Go.Proofs.Ytdajdembeacefaa.M
open Go.Conc
open Go.ConcR (KK wgBlock WgAt stA smA rd wr mk)

theorem take_succ' {α : Type} {l : List α} {j : Nat} {a : α} (h : l[j]? = some a) : l.take (j + 1) = l.take j ++ [a] := by
  rw [List.take_add_one, h]; rfl
theorem Rel.add {O O1 O2 : Gh} {w w1 w2 : World} (r : Rel x0 O w O1 w1) (s : Rel x0 O1 w1 O2 w2) : Rel x0 O w O2 w2 := r.trans s

set_option maxHeartbeats 16000000 in
theorem loop2 (ty : TypeId) (Wg e eb : Nat) (Oc : Gh) (wc : World) (Fin : Gh → Goroutine → World → Prop) (n : Int) (c : Frame) (cs : List Frame) (hdc : Oc.deaf = 0) (hp : Plain Oc wc) (ls : List (List Ent)) (v : Value) (hv : Sl2 (ldOf x0 Oc wc) v ls)
    (hls : ls.length < 100000) (hlen : ∀ l ∈ ls, l.length < 100000) (htot : total ls < 100000) (res : List Ent) (hres : mrg (total ls) n ls [] = res)
    (hfin : ∀ (mo : Nat) (so : Value) (O1 : Gh) (w1 : World) (S : Nat), Buf 4 x0 O1 w1 mo so (res.map Ent.cells) → (res ≠ [] → wc.heap.size ≤ mo ∧ mo < w1.heap.size) → (res = [] → so = .slice none 0 0) → Held S Oc wc O1 w1 → Tree P x0 Fin (reset O1) (G (c.finish (.tuple #[so, .int .i64 0])) cs) w1) :
    ∀ (m j : Nat), j + m = ls.length → ∀ (S mf : Nat) (sf : Value) (fro : List Fro) (sn : List Snd) (O : Gh) (w : World) (f : Nat → Value), I2 ty Wg e eb S Oc wc mf sf O w fro (ls.take j) sn →
      f 1 = .int .i64 n → f 8 = ptr eb 0 → f 9 = ptr Wg 0 → f 10 = sf → f 29 = v → f 30 = .int .i64 (ls.length : Int) → f 31 = .int .i64 (j : Int) →
      MRun P ty Wg e (AnchAll ty Wg Fin) (2 * m + total ls + 1) S sn O (G (Fr (base 11) 94 f [] [.code body2, .inLoop body2, .inBlock 2, .code rest19, .inScope scope11]) (c :: cs)) w := by
  intro m
  induction m with
  | zero =>
    intro j hj S mf sf fro sn O w f hI h1 h8 h9 h10 h29 h30 h31
    have hd0 : decide ((j : Int) < (ls.length : Int)) = false := decide_eq_false (by omega)
    obtain ⟨mb, hI', hem, hmw, hmb⟩ := hI.buffer
    have htk : ls.take j = ls := List.take_of_length_le (by omega)
    rw [htk] at hI'
    have hfl : fro.length < 1000000 := by rw [hI'.base.mat.len]; omega
    rw [show 2 * 0 + total ls + 1 = total ls + 0 + 1 by omega]
    show Tree P x0 (MStop P ty Wg e (AnchAll ty Wg Fin) (MRun P ty Wg e (AnchAll ty Wg Fin) (total ls + 0)) S sn) _ _ _
    refine t_seq ?_
    refine t_region ?_
    repeat (first
      | (refine t_skG rfl (by decide) rfl ?_)
      | (refine t_skU rfl (by decide) rfl ?_)
      | (first | refine t_rdG (by decide) rfl (by decide) rfl (fun K hK => ?_) | refine t_rd (by decide) (fun K hK => ?_)
         simp only [Xa, Xb, Xc, Xd, Xe, Xf, Xg, Xh, Xi, Xj, Xk, Xl, Xm, Xn, Xo, Xp, Xq, Xr, Xs, Xt, Xu, Xv, Xw, Xx, Xy, Xz, XA, XB, XD, XE, XF, XG, XH, XI, ev, XJ, upd, args1, args2, args3, args4, XK, XL, XM, extL, XN, XO, XP, XQ, XR, XT, XU, XV, XW, XX, XY, XZ, X0, X1, X2, X3, Addr.add, ↓reduceIte, Nat.reduceLT, Nat.reduceEqDiff, Nat.zero_add, Nat.reduceAdd, Option.map_some, X4, List.getElem_toArray, List.getElem_cons_zero, List.getElem_cons_succ, h30, h31, hd0]
         refine hK _ ?_
         clear hK K))
    refine t_done ?_
    refine t_seq ?_
    refine t_false rfl ?_
    refine t_exit rfl ?_
    refine t_seq ?_
    refine t_region ?_
    repeat (first
      | (refine t_skG rfl (by decide) rfl ?_)
      | (refine t_skU rfl (by decide) rfl ?_)
      | (first | refine t_rdG (by decide) rfl (by decide) rfl (fun K hK => ?_) | refine t_rd (by decide) (fun K hK => ?_)
         simp only [Xa, Xb, Xc, Xd, Xe, Xf, Xg, Xh, Xi, Xj, Xk, Xl, Xm, Xn, Xo, Xp, Xq, Xr, Xs, Xt, Xu, Xv, Xw, Xx, Xy, Xz, XA, XB, XD, XE, XF, XG, XH, XI, ev, XJ, upd, args1, args2, args3, args4, XK, XL, XM, extL, XN, XO, XP, XQ, XR, XT, XU, XV, XW, XX, XY, XZ, X0, X1, X2, X3, Addr.add, ↓reduceIte, Nat.reduceLT, Nat.reduceEqDiff, Nat.zero_add, Nat.reduceAdd, Option.map_some, X4, List.getElem_toArray, List.getElem_cons_zero, List.getElem_cons_succ]
         refine hK _ ?_
         clear hK K))
    refine t_done ?_
    refine t_seq ?_
    refine t_label ?_
    refine t_seq ?_
    refine t_block ?_
    refine t_loop ?_
    have hWl := shape_lt hI'.base.shp
    -- the fronts' buffer, as loop 3 knows it
    obtain ⟨m3, hI3, hm3⟩ : ∃ m3, I3 ty Wg e eb S Oc wc m3 sf O w fro ls sn ∧ m3 < w.heap.size := by
      rcases hmb with ⟨hf, _⟩ | ⟨_, _, _, hlt⟩
      · refine ⟨Wg, ⟨hI'.base.hwg, hI'.base.shp, hI'.base.het, hI'.base.hel, hI'.base.held, hI'.base.ebT, hI'.base.ebC, hI'.base.fros, hI'.base.fb, hI'.base.mat, ?_⟩, hWl⟩
        rw [hI'.fr0 hf, hf]; exact Buf.nil _ _ _ _ _
      · exact ⟨mb, hI'.base, hlt⟩
    refine loop3 ty Wg e eb S Oc wc m3 sf Fin n c cs hdc res (fun mo so O1 w1 hB hH => hfin mo so O1 w1 S hB.bo (fun hn => ⟨(hB.mfo hn).2.2.1, (hB.mfo hn).2.2.2⟩) hB.so0 hH) (total ls) 0 fro ls sn [] w.heap.size (.slice none 0 0) O w _ rfl hres (by simp; omega) hfl hI3 hm3 ⟨Buf.nil _ _ _ _ _, fun hn => absurd rfl hn, fun _ => rfl⟩ h1 h8 h9 h10 rfl
  | succ m ih =>
    intro j hj S mf0 sf fro sn O w f hI h1 h8 h9 h10 h29 h30 h31
    have hlt : j < ls.length := by omega
    have hjl := List.getElem?_eq_getElem hlt
    generalize hle : ls[j] = l at hjl
    have hlm : l ∈ ls := List.mem_of_getElem? hjl
    have hd0 : decide ((j : Int) < (ls.length : Int)) = true := decide_eq_true (by omega)
    have hknow := hI.base.held.know hp
    obtain ⟨A, u, iA, lA, hu⟩ := hv.at hjl
    have lA' := hknow _ _ lA
    obtain ⟨ua, un, uc, hue⟩ := hu.slice
    rw [show 2 * (m + 1) + total ls + 1 = 2 * m + total ls + 2 + 1 by omega]
    show Tree P x0 (MStop P ty Wg e (AnchAll ty Wg Fin) (MRun P ty Wg e (AnchAll ty Wg Fin) (2 * m + total ls + 2)) S sn) _ _ _
    refine t_seq ?_
    refine t_region ?_
    repeat (first
      | (refine t_skG rfl (by decide) rfl ?_)
      | (refine t_skU rfl (by decide) rfl ?_)
      | (first | refine t_rdG (by decide) rfl (by decide) rfl (fun K hK => ?_) | refine t_rd (by decide) (fun K hK => ?_)
         simp only [Xa, Xb, Xc, Xd, Xe, Xf, Xg, Xh, Xi, Xj, Xk, Xl, Xm, Xn, Xo, Xp, Xq, Xr, Xs, Xt, Xu, Xv, Xw, Xx, Xy, Xz, XA, XB, XD, XE, XF, XG, XH, XI, ev, XJ, upd, args1, args2, args3, args4, XK, XL, XM, extL, XN, XO, XP, XQ, XR, XT, XU, XV, XW, XX, XY, XZ, X0, X1, X2, X3, Addr.add, ↓reduceIte, Nat.reduceLT, Nat.reduceEqDiff, Nat.zero_add, Nat.reduceAdd, Option.map_some, X4, List.getElem_toArray, List.getElem_cons_zero, List.getElem_cons_succ, h30, h31, hd0]
         refine hK _ ?_
         clear hK K))
    refine t_done ?_
    refine t_seq ?_
    refine t_true rfl ?_
    refine t_skip ?_
    refine t_seq ?_
    refine t_block ?_
    refine t_seq ?_
    refine t_region ?_
    iterate 2 (first
      | (refine t_skG rfl (by decide) rfl ?_)
      | (refine t_skU rfl (by decide) rfl ?_)
      | (first | refine t_rdG (by decide) rfl (by decide) rfl (fun K hK => ?_) | refine t_rd (by decide) (fun K hK => ?_)
         simp only [Xa, Xb, Xc, Xd, Xe, Xf, Xg, Xh, Xi, Xj, Xk, Xl, Xm, Xn, Xo, Xp, Xq, Xr, Xs, Xt, Xu, Xv, Xw, Xx, Xy, Xz, XA, XB, XD, XE, XF, XG, XH, XI, ev, XJ, upd, args1, args2, args3, args4, XK, XL, XM, extL, XN, XO, XP, XQ, XR, XT, XU, XV, XW, XX, XY, XZ, X0, X1, X2, X3, Addr.add, ↓reduceIte, Nat.reduceLT, Nat.reduceEqDiff, Nat.zero_add, Nat.reduceAdd, Option.map_some, X4, List.getElem_toArray, List.getElem_cons_zero, List.getElem_cons_succ, h29, h31, iA, lA']
         refine hK _ ?_
         clear hK K))
    refine t_alloc (by decide) (zero25 _) ?_
    intro lb O2 w2 n2
    refine t_store (sz := 1) (m := lb) (off := 0) [u] (by decide) rfl (by simp only [Xa, Xb, Xc, Xd, Xe, Xf, Xg, Xh, Xi, Xj, Xk, Xl, Xm, Xn, Xo, Xp, Xq, Xr, Xs, Xt, Xu, Xv, Xw, Xx, Xy, Xz, XA, XB, XD, XE, XF, XG, XH, XI, ev, XJ, upd, args1, args2, args3, args4, XK, XL, XM, extL, XN, XO, XP, XQ, XR, XT, XU, XV, XW, XX, XY, XZ, X0, X1, X2, X3, Addr.add, ↓reduceIte, Nat.reduceLT, Nat.reduceEqDiff, Nat.zero_add, Nat.reduceAdd, Option.map_some, X4, List.getElem_toArray, List.getElem_cons_zero, List.getElem_cons_succ]) (by simp only [Xa, Xb, Xc, Xd, Xe, Xf, Xg, Xh, Xi, Xj, Xk, Xl, Xm, Xn, Xo, Xp, Xq, Xr, Xs, Xt, Xu, Xv, Xw, Xx, Xy, Xz, XA, XB, XD, XE, XF, XG, XH, XI, ev, XJ, upd, args1, args2, args3, args4, XK, XL, XM, extL, XN, XO, XP, XQ, XR, XT, XU, XV, XW, XX, XY, XZ, X0, X1, X2, X3, Addr.add, ↓reduceIte, Nat.reduceLT, Nat.reduceEqDiff, Nat.zero_add, Nat.reduceAdd, Option.map_some, X4, List.getElem_toArray, List.getElem_cons_zero, List.getElem_cons_succ]; rw [hue]; rfl) rfl (by rw [hue]; simp [one?]) (.inl n2.tag) n2.obj (by decide) ?_
    intro O3 w3 w4 r3 hm4 ht4 hb4
    have r4 : Rel x0 O w O3 w4 := (n2.rel.trans r3).mod hm4 n2.ge
    have olb : Own O3 w4 lb (.cells #[u] 25 (0, 0)) := ⟨ht4.trans n2.tag, hb4⟩
    refine t_done ?_
    refine t_seq ?_
    refine t_region ?_
    refine t_makeChan rfl (by decide) Try.underlying64 rfl ?_
    intro ch O5 w5 n5
    have och : Chn O5 w5 ch := ⟨n5.tag, n5.obj⟩
    refine t_val (by decide) (x_build66 (c := ch) _ (by simp only [Xa, Xb, Xc, Xd, Xe, Xf, Xg, Xh, Xi, Xj, Xk, Xl, Xm, Xn, Xo, Xp, Xq, Xr, Xs, Xt, Xu, Xv, Xw, Xx, Xy, Xz, XA, XB, XD, XE, XF, XG, XH, XI, ev, XJ, upd, args1, args2, args3, args4, XK, XL, XM, extL, XN, XO, XP, XQ, XR, XT, XU, XV, XW, XX, XY, XZ, X0, X1, X2, X3, Addr.add, ↓reduceIte, Nat.reduceLT, Nat.reduceEqDiff, Nat.zero_add, Nat.reduceAdd, Option.map_some, X4, List.getElem_toArray, List.getElem_cons_zero, List.getElem_cons_succ])) ?_
    refine t_box (Fro.cells ⟨0, ch, ⟨⟨#[]⟩, 0, false, ⟨#[]⟩⟩, false⟩) (by simp only [Xa, Xb, Xc, Xd, Xe, Xf, Xg, Xh, Xi, Xj, Xk, Xl, Xm, Xn, Xo, Xp, Xq, Xr, Xs, Xt, Xu, Xv, Xw, Xx, Xy, Xz, XA, XB, XD, XE, XF, XG, XH, XI, ev, XJ, upd, args1, args2, args3, args4, XK, XL, XM, extL, XN, XO, XP, XQ, XR, XT, XU, XV, XW, XX, XY, XZ, X0, X1, X2, X3, Addr.add, ↓reduceIte, Nat.reduceLT, Nat.reduceEqDiff, Nat.zero_add, Nat.reduceAdd, Option.map_some, X4, List.getElem_toArray, List.getElem_cons_zero, List.getElem_cons_succ]; rfl) (by decide) ?_
    intro frb O6 w6 n6
    refine t_alloc (by decide) (zero63 _) ?_
    intro fb O7 w7 n7
    refine t_store (sz := 1) (m := fb) (off := 0) [.pointer (some ⟨frb, 0, none⟩)] (by decide) rfl (by simp only [Xa, Xb, Xc, Xd, Xe, Xf, Xg, Xh, Xi, Xj, Xk, Xl, Xm, Xn, Xo, Xp, Xq, Xr, Xs, Xt, Xu, Xv, Xw, Xx, Xy, Xz, XA, XB, XD, XE, XF, XG, XH, XI, ev, XJ, upd, args1, args2, args3, args4, XK, XL, XM, extL, XN, XO, XP, XQ, XR, XT, XU, XV, XW, XX, XY, XZ, X0, X1, X2, X3, Addr.add, ↓reduceIte, Nat.reduceLT, Nat.reduceEqDiff, Nat.zero_add, Nat.reduceAdd, Option.map_some, X4, List.getElem_toArray, List.getElem_cons_zero, List.getElem_cons_succ]) (by simp only [Xa, Xb, Xc, Xd, Xe, Xf, Xg, Xh, Xi, Xj, Xk, Xl, Xm, Xn, Xo, Xp, Xq, Xr, Xs, Xt, Xu, Xv, Xw, Xx, Xy, Xz, XA, XB, XD, XE, XF, XG, XH, XI, ev, XJ, upd, args1, args2, args3, args4, XK, XL, XM, extL, XN, XO, XP, XQ, XR, XT, XU, XV, XW, XX, XY, XZ, X0, X1, X2, X3, Addr.add, ↓reduceIte, Nat.reduceLT, Nat.reduceEqDiff, Nat.zero_add, Nat.reduceAdd, Option.map_some, X4, List.getElem_toArray, List.getElem_cons_zero, List.getElem_cons_succ]; rfl) rfl (by simp [one?]) (.inl n7.tag) n7.obj (by decide) ?_
    intro O8 w8 w9 r8 hm9 ht9 hb9
    have ofb : Own O8 w9 fb (.cells #[.pointer (some ⟨frb, 0, none⟩)] 63 (0, 0)) := ⟨ht9.trans n7.tag, hb9⟩
    have s67 : w6.heap.size ≤ w7.heap.size := n7.rel.size
    have hlbl : lb < w4.heap.size := olb.lt
    have hchl : ch < w5.heap.size := och.lt
    have hfrl : frb < w6.heap.size := (Array.getElem?_eq_some_iff.1 n6.obj).1
    have s45 := n5.rel.size
    have s56 := n6.rel.size
    have hlbw := n2.ge
    have hchw := n5.ge
    have hfrw := n6.ge
    have hfbw := n7.ge
    have s04 := r4.size
    have olb9 : Own O8 w9 lb (.cells #[u] 25 (0, 0)) := ((((olb.rel n5.rel).rel n6.rel).rel n7.rel).rel r8).mod hm9 (by omega)
    have och9 : Chn O8 w9 ch := (((och.rel n6.rel).rel n7.rel).rel r8).mod hm9 (by omega)
    have ofr9 : Own O8 w9 frb (.cells (Fro.cells ⟨0, ch, ⟨⟨#[]⟩, 0, false, ⟨#[]⟩⟩, false⟩) 66 (0, 0)) := ((Own.rel ⟨n6.tag, n6.obj⟩ n7.rel).rel r8).mod hm9 (by omega)
    have r9 : Rel x0 O w O8 w9 := ((((r4.trans n5.rel).trans n6.rel).trans n7.rel).trans r8).mod hm9 (by omega)
    have hI9 := hI.rel r9
    refine t_done ?_
    refine t_seq ?_
    -- Add(1)
    have hW := ctl_tree x0 (MStop P ty Wg e (AnchAll ty Wg Fin) (MRun P ty Wg e (AnchAll ty Wg Fin) (2 * m + total ls + 2)) S sn) O8 w9
    refine c_region hW ?_
    refine c_call hW #[ptr Wg 0, .int .i64 1] (by decide) Try.func24 nm24 rfl (by simp only [List.map_toArray, List.map_cons, List.map_nil, Xa, Xb, Xc, Xd, Xe, Xf, Xg, Xh, Xi, Xj, Xk, Xl, Xm, Xn, Xo, Xp, Xq, Xr, Xs, Xt, Xu, Xv, Xw, Xx, Xy, Xz, XA, XB, XD, XE, XF, XG, XH, XI, ev, XJ, upd, args1, args2, args3, args4, XK, XL, XM, extL, XN, XO, XP, XQ, XR, XT, XU, XV, XW, XX, XY, XZ, X0, X1, X2, X3, Addr.add, ↓reduceIte, Nat.reduceLT, Nat.reduceEqDiff, Nat.zero_add, Nat.reduceAdd, Option.map_some, X4, List.getElem_toArray, List.getElem_cons_zero, List.getElem_cons_succ, x_nil, nilL_some, Option.isSome_some, x_f61_1, x_f61_2, x_f58_2, x_cv3_56, x_cv56_21, x_cv56_59, x_cv3_21, convL_int, bin_shl64, bin_shr64, bin_andB, h9]) ?_
    clear hW
    intro c2 hgo
    have hsnl : sn.length < 2147483646 := by rw [hI.base.mat.lens, List.length_take]; omega
    have hd9 : O8.deaf = 0 := hI9.base.held.deaf.trans hdc
    refine Tree.mono (fun _ _ _ h => .inl h) ?_
    refine add1_M ty Wg e (MRun P ty Wg e (AnchAll ty Wg Fin) (2 * m + total ls + 2)) S sn O8 w9 c2 (c :: cs) hI9.base.hwg hI9.base.shp hd9 hsnl ?_
    intro O10 w10 r10
    refine hgo (fun g => Tree P x0 (AtGo P ty Wg e (MRun P ty Wg e (AnchAll ty Wg Fin) (2 * m + total ls + 2)) S sn) O10 g w10) _ ?_
    clear hgo
    refine (?_ : InReg P x0 _ O10 w10 _ _ _ _ _ _ _ _ _)
    refine t_done ?_
    refine t_seq ?_
    refine t_region ?_
    refine t_val (by decide) (x_makeFunc _ _ _) ?_
    refine t_here fun rest ho hgo => Tree.stop fun O1 w1 r1 => ?_
    have r11 := (r9.trans r10).trans r1
    obtain ⟨mf, hI1, hem, hmw, hmb⟩ := (hI.rel r11).buffer
    have olb1 := (olb9.rel r10).rel r1
    have och1 := (och9.rel r10).rel r1
    have ofr1 := (ofr9.rel r10).rel r1
    have ofb1 := (ofb.rel r10).rel r1
    have hd1 : O1.deaf = 0 := hI1.base.held.deaf.trans hdc
    have hcf : frb ≠ ch := by omega
    have hebl : eb < w.heap.size := (Array.getElem?_eq_some_iff.1 hI.base.ebC).1
    have hel := hI.base.hel
    have hWl := shape_lt hI.base.shp
    have hwcl : wc.heap.size ≤ w.heap.size := hI.base.held.size
    have hSw := hI.hS
    have hmfl : mf < w.heap.size ∨ w1.heap.size ≤ mf := by
      rcases hmb with ⟨_, h'⟩ | ⟨hf, h', _⟩
      · exact .inr (by omega)
      · left; rw [h']; exact (hI.frm hf).2.2
    have c1 := olb1.lt
    have c2l := och1.lt
    have c3 := ofr1.lt
    have c4 := ofb1.lt
    have hnf : ∀ q ∈ fro, q.b ≠ frb := fun q hq e1 => by have := (hI1.base.fros.ok q hq).tag; rw [e1, ofr1.tag] at this; cases this
    obtain ⟨hI', hebc⟩ := hI1.retag (ch := ch) (frb := frb) och1.tag ofr1.tag hcf (by omega) (by omega) hem hmw (by
      rcases hmb with ⟨h, h'⟩ | ⟨h, _, h', _⟩
      · exact .inl ⟨h, by omega, by omega⟩
      · exact .inr ⟨h, h'⟩) (by omega) (by omega) hnf
    have hret := retag_ok (S := S) (mf := mf) och1.tag ofr1.tag (by omega)
    have tch : (retag ch frb mf S O1).tag ch = .sync := retag_ch
    have tfr : (retag ch frb mf S O1).tag frb = .front := retag_frb hcf
    have tlb : (retag ch frb mf S O1).tag lb = .const := retag_const (by omega) (by omega) olb1.tag (by omega) (by omega)
    have tfb : (retag ch frb mf S O1).tag fb = .const := retag_const (by omega) (by omega) ofb1.tag (by omega) (by omega)
    have hd' : (retag ch frb mf S O1).deaf = 0 := hd1
    generalize hO' : retag ch frb mf S O1 = O' at *
    have clb : w1.cell? ⟨lb, 0, none⟩ = some u := by unfold World.cell?; rw [olb1.obj]; rfl
    have cfb : w1.cell? ⟨fb, 0, none⟩ = some (.pointer (some ⟨frb, 0, none⟩)) := by unfold World.cell?; rw [ofb1.obj]; rfl
    have cfr : w1.cell? ⟨frb, 0, none⟩ = some (.chan (some ch)) := by unfold World.cell?; rw [ofr1.obj]; rfl
    have ceb : w1.cell? ⟨eb, 0, none⟩ = some (.chan (some e)) := by unfold World.cell?; rw [hI'.base.ebC]; rfl
    have hq0 : FrOK O' w1 ⟨frb, ch, ⟨⟨#[]⟩, 0, false, ⟨#[]⟩⟩, false⟩ := ⟨tfr, ofr1.obj⟩
    refine ⟨rfl, hd1, hsnl, _, born P (goCall Wg lb fb eb), O', ch, l.map Ent.v, 0, 0, false, st_go (caps := #[ptr Wg 0, ptr lb 0, ptr fb 0, ptr eb 0]) ho (by decide) (by simp only [List.map_toArray, List.map_cons, List.map_nil, Xa, Xb, Xc, Xd, Xe, Xf, Xg, Xh, Xi, Xj, Xk, Xl, Xm, Xn, Xo, Xp, Xq, Xr, Xs, Xt, Xu, Xv, Xw, Xx, Xy, Xz, XA, XB, XD, XE, XF, XG, XH, XI, ev, XJ, upd, args1, args2, args3, args4, XK, XL, XM, extL, XN, XO, XP, XQ, XR, XT, XU, XV, XW, XX, XY, XZ, X0, X1, X2, X3, Addr.add, ↓reduceIte, Nat.reduceLT, Nat.reduceEqDiff, Nat.zero_add, Nat.reduceAdd, Option.map_some, X4, List.getElem_toArray, List.getElem_cons_zero, List.getElem_cons_succ, h8, h9]; rfl), rfl, hret, och1.obj, tch, by omega, by omega, fun p hp => ?_, fun id hid => ?_, ?_⟩
    · have := hI.snl p hp; omega
    · -- the child
      have hx : ((⟨id, w1.heap.size⟩ : Th).id == 0) = false := by simp; omega
      refine child_M hx ty Wg e ch lb fb frb eb l u _ w1 (ldOf_child id 0 tlb clb) (Sl.mono hu fun a vv hl => ?_) (by have := hlen l hlm; omega) (ldOf_child id 0 tfb cfb) (ldOf_childF id 0 tfr cfr) (ldOf_child id 0 hebc ceb) rfl hI'.base.hwg hI'.base.shp tch c2l
      obtain ⟨g1, g2, g3⟩ := ldOf_plain hp hl
      obtain ⟨g4, g5⟩ := hI'.base.held.own a.block g1 g2
      have g6 : O'.tag a.block = .const := by
        rcases g4 with g4 | ⟨_, g4⟩
        · exact g4
        · have := hI1.base.held.size; omega
      refine ldOf_child id 0 g6 ?_
      obtain ⟨ab, ao, as'⟩ := a
      rw [cell?_congr g5]; exact g3
    · -- the first entry
      show Tree P x0 (MStop P ty Wg e (AnchAll ty Wg Fin) (MRun P ty Wg e (AnchAll ty Wg Fin) (2 * m + total ls + 1)) w1.heap.size (sn ++ [(ch, l.map Ent.v)])) _ _ _
      refine hgo (fun g => Tree P x0 (MStop P ty Wg e (AnchAll ty Wg Fin) (MRun P ty Wg e (AnchAll ty Wg Fin) (2 * m + total ls + 1)) w1.heap.size (sn ++ [(ch, l.map Ent.v)])) O' g w1) _ _ ?_
      clear hgo
      have hW := ctl_tree x0 (MStop P ty Wg e (AnchAll ty Wg Fin) (MRun P ty Wg e (AnchAll ty Wg Fin) (2 * m + total ls + 1)) w1.heap.size (sn ++ [(ch, l.map Ent.v)])) O' w1
      have kfb : ldOf x0 O' w1 ⟨fb, 0, none⟩ = some (.pointer (some ⟨frb, 0, none⟩)) := ldOf_of (.inr (.inl ⟨tfb, .inl rfl⟩)) cfb
      refine c_done hW ?_
      refine c_seq hW ?_
      refine c_region hW ?_
      refine (?_ : InReg P x0 _ O' w1 _ _ _ _ _ _ _ _ _)
      iterate 1 (first
        | (refine t_skG rfl (by decide) rfl ?_)
        | (refine t_skU rfl (by decide) rfl ?_)
        | (first | refine t_rdG (by decide) rfl (by decide) rfl (fun K hK => ?_) | refine t_rd (by decide) (fun K hK => ?_)
           simp only [Xa, Xb, Xc, Xd, Xe, Xf, Xg, Xh, Xi, Xj, Xk, Xl, Xm, Xn, Xo, Xp, Xq, Xr, Xs, Xt, Xu, Xv, Xw, Xx, Xy, Xz, XA, XB, XD, XE, XF, XG, XH, XI, ev, XJ, upd, args1, args2, args3, args4, XK, XL, XM, extL, XN, XO, XP, XQ, XR, XT, XU, XV, XW, XX, XY, XZ, X0, X1, X2, X3, Addr.add, ↓reduceIte, Nat.reduceLT, Nat.reduceEqDiff, Nat.zero_add, Nat.reduceAdd, Option.map_some, X4, List.getElem_toArray, List.getElem_cons_zero, List.getElem_cons_succ, kfb]
           refine hK _ ?_
           clear hK K))
      refine c_call hW #[(⟨frb, ch, ⟨⟨#[]⟩, 0, false, ⟨#[]⟩⟩, false⟩ : Fro).ptr] (by decide) Try.func28 nm28 rfl (by simp only [List.map_toArray, List.map_cons, List.map_nil, Xa, Xb, Xc, Xd, Xe, Xf, Xg, Xh, Xi, Xj, Xk, Xl, Xm, Xn, Xo, Xp, Xq, Xr, Xs, Xt, Xu, Xv, Xw, Xx, Xy, Xz, XA, XB, XD, XE, XF, XG, XH, XI, ev, XJ, upd, args1, args2, args3, args4, XK, XL, XM, extL, XN, XO, XP, XQ, XR, XT, XU, XV, XW, XX, XY, XZ, X0, X1, X2, X3, Addr.add, ↓reduceIte, Nat.reduceLT, Nat.reduceEqDiff, Nat.zero_add, Nat.reduceAdd, Option.map_some, X4, List.getElem_toArray, List.getElem_cons_zero, List.getElem_cons_succ, x_nil, nilL_some, Option.isSome_some, x_f61_1, x_f61_2, x_f58_2, x_cv3_56, x_cv56_21, x_cv56_59, x_cv3_21, convL_int, bin_shl64, bin_shr64, bin_andB]; rfl) ?_
      clear hW
      intro cN hgo
      refine next_M ty Wg e (2 * m + total ls) w1.heap.size (AnchAll ty Wg Fin) (sn ++ [(ch, l.map Ent.v)]) sn.length ⟨frb, ch, ⟨⟨#[]⟩, 0, false, ⟨#[]⟩⟩, false⟩ l O' w1 cN (c :: cs) hq0 (by simp) ?_
      intro O12 w12 k12 hq12
      have hI12 := hI'.relM k12 tfr hnf (by show wc.heap.size ≤ frb; omega)
      show Tree P x0 (MStop P ty Wg e (AnchAll ty Wg Fin) (MRun P ty Wg e (AnchAll ty Wg Fin) (2 * m + total ls)) w1.heap.size (rcvS (sn ++ [(ch, l.map Ent.v)]) sn.length ch l)) _ _ _
      refine hgo (fun g => Tree P x0 (MStop P ty Wg e (AnchAll ty Wg Fin) (MRun P ty Wg e (AnchAll ty Wg Fin) (2 * m + total ls)) w1.heap.size (rcvS (sn ++ [(ch, l.map Ent.v)]) sn.length ch l)) O12 g w12) _ ?_
      clear hgo
      refine (?_ : InReg P x0 _ O12 w12 _ _ _ _ _ _ _ _ _)
      have sfb : Sees x0 O' fb := .inr (.inl ⟨tfb, .inl rfl⟩)
      have kfb12 : ldOf x0 O12 w12 ⟨fb, 0, none⟩ = some (.pointer (some ⟨frb, 0, none⟩)) := ldOf_of (sfb.of_tag (k12.tags fb c4 sfb)) (by rw [cell?_congr (k12.block fb c4 (by show fb ≠ frb; omega) sfb)]; exact cfb)
      refine t_done ?_
      refine t_region ?_
      iterate 2 (first
        | (refine t_skG rfl (by decide) rfl ?_)
        | (refine t_skU rfl (by decide) rfl ?_)
        | (first | refine t_rdG (by decide) rfl (by decide) rfl (fun K hK => ?_) | refine t_rd (by decide) (fun K hK => ?_)
           simp only [Xa, Xb, Xc, Xd, Xe, Xf, Xg, Xh, Xi, Xj, Xk, Xl, Xm, Xn, Xo, Xp, Xq, Xr, Xs, Xt, Xu, Xv, Xw, Xx, Xy, Xz, XA, XB, XD, XE, XF, XG, XH, XI, ev, XJ, upd, args1, args2, args3, args4, XK, XL, XM, extL, XN, XO, XP, XQ, XR, XT, XU, XV, XW, XX, XY, XZ, X0, X1, X2, X3, Addr.add, ↓reduceIte, Nat.reduceLT, Nat.reduceEqDiff, Nat.zero_add, Nat.reduceAdd, Option.map_some, X4, List.getElem_toArray, List.getElem_cons_zero, List.getElem_cons_succ, h10, kfb12]
           refine hK _ ?_
           clear hK K))
      refine t_buildSlice (sz := 1) (cells := #[.pointer (some ⟨frb, 0, none⟩)]) (pv := #[(0, .pointer (some ⟨frb, 0, none⟩))]) Try.underlying62 rfl (by decide) zero63 (by decide) (by simp only [List.map_toArray, List.map_cons, List.map_nil, Xa, Xb, Xc, Xd, Xe, Xf, Xg, Xh, Xi, Xj, Xk, Xl, Xm, Xn, Xo, Xp, Xq, Xr, Xs, Xt, Xu, Xv, Xw, Xx, Xy, Xz, XA, XB, XD, XE, XF, XG, XH, XI, ev, XJ, upd, args1, args2, args3, args4, XK, XL, XM, extL, XN, XO, XP, XQ, XR, XT, XU, XV, XW, XX, XY, XZ, X0, X1, X2, X3, Addr.add, ↓reduceIte, Nat.reduceLT, Nat.reduceEqDiff, Nat.zero_add, Nat.reduceAdd, Option.map_some, X4, List.getElem_toArray, List.getElem_cons_zero, List.getElem_cons_succ]) (fun c0 h0 => by
        rw [fill_one (off := 0) (sz := 1) rfl rfl (by simp at h0; omega), Instr.fill]
        have : c0.toList.drop 1 = [] := List.drop_eq_nil_iff.2 (by simp; omega)
        simp [this, Value.cells]) ?_
      intro m3 O13 w13 h3
      have hs3 : Sl 1 (ldOf x0 O13 w13) (.slice (some ⟨m3, 0, none⟩) 1 1) [#[.pointer (some ⟨frb, 0, none⟩)]] := .inr ⟨m3, 0, 1, rfl, Nat.le_refl _, fun i a hi => by
        rcases i with _ | i
        · simp at hi; subst hi
          refine ⟨rfl, fun k hk => ?_⟩
          obtain rfl : k = 0 := by omega
          exact h3.cell 0 _ rfl
        · simp at hi⟩
      have hI13 := hI12.rel h3.rel
      obtain ⟨mc, hIc, hemc, hmwc, hmc⟩ := hI13.buffer
      refine t_append Try.underlying62 rfl rfl rfl (by decide) (by decide) (by decide) zero63 rfl (by decide) rfl (by simp only [Xa, Xb, Xc, Xd, Xe, Xf, Xg, Xh, Xi, Xj, Xk, Xl, Xm, Xn, Xo, Xp, Xq, Xr, Xs, Xt, Xu, Xv, Xw, Xx, Xy, Xz, XA, XB, XD, XE, XF, XG, XH, XI, ev, XJ, upd, args1, args2, args3, args4, XK, XL, XM, extL, XN, XO, XP, XQ, XR, XT, XU, XV, XW, XX, XY, XZ, X0, X1, X2, X3, Addr.add, ↓reduceIte, Nat.reduceLT, Nat.reduceEqDiff, Nat.zero_add, Nat.reduceAdd, Option.map_some, X4, List.getElem_toArray, List.getElem_cons_zero, List.getElem_cons_succ]) hIc.base.bf hs3 (by
        have := hI.base.mat.len
        rw [List.length_take] at this
        simp; omega) (fun a ha => by
        simp at ha; subst ha
        exact ⟨rfl, fun u hu => by simp at hu; subst hu; rfl⟩) ?_
      intro O14 w14 m' s' O15 w15 r14 hm15 hbuf15 hmm
      repeat (first
        | (refine t_skG rfl (by decide) rfl ?_)
        | (refine t_skU rfl (by decide) rfl ?_)
        | (first | refine t_rdG (by decide) rfl (by decide) rfl (fun K hK => ?_) | refine t_rd (by decide) (fun K hK => ?_)
           simp only [Xa, Xb, Xc, Xd, Xe, Xf, Xg, Xh, Xi, Xj, Xk, Xl, Xm, Xn, Xo, Xp, Xq, Xr, Xs, Xt, Xu, Xv, Xw, Xx, Xy, Xz, XA, XB, XD, XE, XF, XG, XH, XI, ev, XJ, upd, args1, args2, args3, args4, XK, XL, XM, extL, XN, XO, XP, XQ, XR, XT, XU, XV, XW, XX, XY, XZ, X0, X1, X2, X3, Addr.add, ↓reduceIte, Nat.reduceLT, Nat.reduceEqDiff, Nat.zero_add, Nat.reduceAdd, Option.map_some, X4, List.getElem_toArray, List.getElem_cons_zero, List.getElem_cons_succ]
           refine hK _ ?_
           clear hK K))
      refine t_done ?_
      refine t_inBlock ?_
      have hw2 : IntKind.i64.wrap ((j : Int) + 1) = ((j + 1 : Nat) : Int) := by rw [wrap64] <;> omega
      refine t_region ?_
      repeat (first
        | (refine t_skG rfl (by decide) rfl ?_)
        | (refine t_skU rfl (by decide) rfl ?_)
        | (first | refine t_rdG (by decide) rfl (by decide) rfl (fun K hK => ?_) | refine t_rd (by decide) (fun K hK => ?_)
           simp only [Xa, Xb, Xc, Xd, Xe, Xf, Xg, Xh, Xi, Xj, Xk, Xl, Xm, Xn, Xo, Xp, Xq, Xr, Xs, Xt, Xu, Xv, Xw, Xx, Xy, Xz, XA, XB, XD, XE, XF, XG, XH, XI, ev, XJ, upd, args1, args2, args3, args4, XK, XL, XM, extL, XN, XO, XP, XQ, XR, XT, XU, XV, XW, XX, XY, XZ, X0, X1, X2, X3, Addr.add, ↓reduceIte, Nat.reduceLT, Nat.reduceEqDiff, Nat.zero_add, Nat.reduceAdd, Option.map_some, X4, List.getElem_toArray, List.getElem_cons_zero, List.getElem_cons_succ, h31, hw2]
           refine hK _ ?_
           clear hK K))
      refine t_done ?_
      refine t_inLoop ?_
      have hchl : ch < w12.heap.size := Nat.lt_of_lt_of_le c2l k12.size
      have s13 := h3.rel.size
      have s14 := r14.size
      have s15 := hm15.size
      have heb13 : eb < w13.heap.size := (Array.getElem?_eq_some_iff.1 hI13.base.ebC).1
      have hwc13 : wc.heap.size ≤ w13.heap.size := hI13.base.held.size
      have hm'o : eb ≠ m' ∧ wc.heap.size ≤ m' := by
        rcases hmm with rfl | ⟨h5, _⟩
        · exact ⟨hemc, hmwc⟩
        · exact ⟨by omega, by omega⟩
      have hfin2 : I2 ty Wg e eb w1.heap.size Oc wc m' s' O15 w15 (fro ++ [rcvE ⟨frb, ch, ⟨⟨#[]⟩, 0, false, ⟨#[]⟩⟩, false⟩ l]) (ls.take j ++ [l]) (rcvS (sn ++ [(ch, l.map Ent.v)]) sn.length ch l) := by
        rcases hmc with ⟨hf, hme⟩ | ⟨hf, _, _, _⟩
        · have r15 := r14.mod hm15 (by omega)
          exact (hIc.rel r15).push (mc := w15.heap.size) ((hq12.rely h3.rel).rely r15) hnf (by show wc.heap.size ≤ frb; omega) (by show ch < w15.heap.size; omega) (Mod.refl _ _ _) (.inl (Nat.le_refl _)) hbuf15 hm'o
        · exact (hIc.rel r14).push ((hq12.rely h3.rel).rely r14) hnf (by show wc.heap.size ≤ frb; omega) (by show ch < w14.heap.size; omega) hm15 (.inr ⟨hf, rfl⟩) hbuf15 hm'o
      rw [← take_succ' hjl] at hfin2
      exact ih (j + 1) (by omega) w1.heap.size m' s' _ _ O15 w15 _ hfin2 h1 h8 h9 rfl h29 h30 rfl
end Go.Proofs.Ytdajdembeacefaa.M

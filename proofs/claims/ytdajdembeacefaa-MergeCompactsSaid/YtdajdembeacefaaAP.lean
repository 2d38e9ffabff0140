/-
  FIRST, its third loop: the best front's entry is taken, one after the other.
-/
import Derived.Test.YtdajdembeacefaaAO
set_option linter.unusedSimpArgs false
set_option linter.unusedVariables false
namespace Go.Proofs.Ytdajdembeacefaa.M
open Go.Conc
open Go.ConcR (KK wgBlock WgAt stA smA rd wr mk)

/-- What is held of memory while the fronts are taken from. -/
structure I3 (ty : TypeId) (Wg e eb S : Nat) (Oc : Gh) (wc : World) (mf : Nat) (sf : Value) (O : Gh) (w : World) (fro : List Fro) (qs : List (List Ent)) (sn : List Snd) : Prop where
  hwg : O.tag Wg = .sync
  shp : w.shape? Wg = some (ty, 2)
  het : O.tag e = .sync
  hel : e < w.heap.size
  held : Held S Oc wc O w
  ebT : O.tag eb = .mine 0 ∨ O.tag eb = .const
  ebC : w.heap[eb]? = some (.cells #[.chan (some e)] 51 (0, 0))
  fros : Fros O w fro
  fb : ∀ q ∈ fro, wc.heap.size ≤ q.b
  mat : Mat fro qs sn
  bf : Buf 1 x0 O w mf sf (fro.map fun q => #[q.ptr])
/-- What is held of the answer's buffer. -/
structure B3 (wc : World) (mf eb : Nat) (O : Gh) (w : World) (out : List Ent) (mo : Nat) (so : Value) : Prop where
  bo : Buf 4 x0 O w mo so (out.map Ent.cells)
  mfo : out ≠ [] → mf ≠ mo ∧ eb ≠ mo ∧ wc.heap.size ≤ mo ∧ mo < w.heap.size
  so0 : out = [] → so = .slice none 0 0
section
variable {ty : TypeId} {Wg e eb S : Nat} {Oc O O1 O2 : Gh} {wc w w1 w2 : World} {mf : Nat} {sf : Value} {fro : List Fro} {qs : List (List Ent)} {sn : List Snd} {out : List Ent} {mo : Nat} {so : Value}
theorem I3.rel (h : I3 ty Wg e eb S Oc wc mf sf O w fro qs sn) (r : Rel x0 O w O1 w1) : I3 ty Wg e eb S Oc wc mf sf O1 w1 fro qs sn := by
  have hlt := shape_lt h.shp
  have hebl := (Array.getElem?_eq_some_iff.1 h.ebC).1
  have hs : Sees x0 O eb := h.ebT.elim .inl fun h => .inr (.inl ⟨h, .inl rfl⟩)
  exact ⟨r.sy _ hlt h.hwg, (r.shp _ hlt h.hwg).trans h.shp, r.sy _ h.hel h.het, Nat.lt_of_lt_of_le h.hel r.size, h.held.rel r, by rw [r.tags _ hebl hs]; exact h.ebT, (r.block _ hebl hs).trans h.ebC, h.fros.rely r, h.fb, h.mat, h.bf.rely r⟩
theorem I3.relM {i : Nat} {q : Fro} {a : Ent} {r : List Ent} (h : I3 ty Wg e eb S Oc wc mf sf O w fro qs sn) (hf : fro[i]? = some q) (hq : qs[i]? = some (a :: r)) (k : RelM q.b O w O1 w1) (hq' : FrOK O1 w1 (rcvE q r)) :
    I3 ty Wg e eb S Oc wc mf sf O1 w1 (fro.set i (rcvE q r)) (popAt qs i) (rcvS sn i q.c r) := by
  have hlt := shape_lt h.shp
  have hebl := (Array.getElem?_eq_some_iff.1 h.ebC).1
  have hil := (List.getElem?_eq_some_iff.1 hf).1
  have hs : Sees x0 O eb := h.ebT.elim .inl fun h => .inr (.inl ⟨h, .inl rfl⟩)
  have hqt := (h.fros.ok q (List.mem_of_getElem? hf)).tag
  have hne : eb ≠ q.b := fun e => by
    have := h.ebT
    rw [e, hqt] at this
    rcases this with h | h <;> cases h
  have hmap : (fro.set i (rcvE q r)).map (fun q => (#[q.ptr] : Array Value)) = fro.map fun q => #[q.ptr] := by
    rw [List.map_set]
    apply List.ext_getElem?
    intro j
    rw [List.getElem?_set]
    split
    · rename_i e; subst e
      rw [List.getElem?_map, hf, List.length_map]
      simp [hil, Fro.ptr, rcvE_b]
    · rfl
  refine ⟨k.sy _ hlt h.hwg, (k.shp _ hlt h.hwg).trans h.shp, k.sy _ h.hel h.het, Nat.lt_of_lt_of_le h.hel k.size, k.held h.held (h.fb q (List.mem_of_getElem? hf)), by rw [k.tags _ hebl hs]; exact h.ebT, (k.block _ hebl hne hs).trans h.ebC,
    k.fros h.fros hf (rcvE_b q r) hq', fun p hp => ?_, h.mat.pop hf hq, by rw [hmap]; exact k.buf' h.bf (by rw [hqt]; simp)⟩
  obtain ⟨j, hj⟩ := List.getElem?_of_mem hp
  by_cases hij : i = j
  · subst hij
    rw [List.getElem?_set_self hil] at hj
    cases hj; rw [rcvE_b]; exact h.fb q (List.mem_of_getElem? hf)
  · rw [List.getElem?_set_ne hij] at hj
    exact h.fb p (List.mem_of_getElem? hj)
theorem I3.mod (h : I3 ty Wg e eb S Oc wc mf sf O w fro qs sn) {m : Nat} (k : Mod O w O1 w1 m) (hm : O.tag m = .mine 0) (h1 : mf ≠ m) (h2 : eb ≠ m) (h3 : wc.heap.size ≤ m) : I3 ty Wg e eb S Oc wc mf sf O1 w1 fro qs sn := by
  have hlt := shape_lt h.shp
  have hebl := (Array.getElem?_eq_some_iff.1 h.ebC).1
  have hw : Wg ≠ m := fun e => by have := h.hwg; rw [e, hm] at this; cases this
  exact ⟨(k.tags _ hlt).trans h.hwg, (shape_congr (k.block _ hlt hw)).trans h.shp, (k.tags _ h.hel).trans h.het, Nat.lt_of_lt_of_le h.hel k.size, h.held.mod k h3, by rw [k.tags _ hebl]; exact h.ebT, (k.block _ hebl h2).trans h.ebC,
    h.fros.keep k (fun q hq e => by have := (h.fros.ok q hq).tag; rw [e, hm] at this; cases this), h.fb, h.mat, h.bf.keep k h1⟩
theorem I3.eb_known (h : I3 ty Wg e eb S Oc wc mf sf O w fro qs sn) : ldOf x0 O w ⟨eb, 0, none⟩ = some (.chan (some e)) :=
  ldOf_of (h.ebT.elim .inl fun h => .inr (.inl ⟨h, .inl rfl⟩)) (by unfold World.cell?; rw [h.ebC]; rfl)
theorem B3.rel (h : B3 wc mf eb O w out mo so) (r : Rel x0 O w O1 w1) : B3 wc mf eb O1 w1 out mo so :=
  ⟨h.bo.rely r, fun hn => ⟨(h.mfo hn).1, (h.mfo hn).2.1, (h.mfo hn).2.2.1, Nat.lt_of_lt_of_le (h.mfo hn).2.2.2 r.size⟩, h.so0⟩
theorem B3.relM {m : Nat} (h : B3 wc mf eb O w out mo so) (k : RelM m O w O1 w1) (hm : O.tag m = .front) : B3 wc mf eb O1 w1 out mo so :=
  ⟨k.buf' h.bo (by rw [hm]; simp), fun hn => ⟨(h.mfo hn).1, (h.mfo hn).2.1, (h.mfo hn).2.2.1, Nat.lt_of_lt_of_le (h.mfo hn).2.2.2 k.size⟩, h.so0⟩
theorem B3.tag (h : B3 wc mf eb O w out mo so) (hn : out ≠ []) : O.tag mo = .mine 0 := by
  rcases h.bo.2 with ⟨h1, _⟩ | ⟨_, _, _, _, h2, _⟩
  · simp at h1; exact absurd h1 hn
  · exact h2
end

noncomputable def bodyB' : Code → Code
  | .block _ b => b
  | c => c
noncomputable def rest27f : Code := tlC (tlC (tlC (tlC (tlC (bodyB' (tlC body3))))))
theorem lastIs_nil (a : Ent) : lastIs [] a = false := rfl
theorem lastIs_snoc {out : List Ent} {p a : Ent} (h : out[out.length - 1]? = some p) : lastIs out a = keq p a := by
  unfold lastIs
  rw [List.getLast?_eq_getElem?, h]
theorem bestV_some (i : Nat) (q : Fro) : bestV (some (i, q)) = .pointer (some ⟨q.b, 0, none⟩) := rfl


set_option maxHeartbeats 16000000 in
theorem loop3 (ty : TypeId) (Wg e eb S : Nat) (Oc : Gh) (wc : World) (mf : Nat) (sf : Value) (Fin : Gh → Goroutine → World → Prop) (n : Int) (c : Frame) (cs : List Frame) (hdc : Oc.deaf = 0) (res : List Ent)
    (hfin : ∀ (mo : Nat) (so : Value) (O1 : Gh) (w1 : World), B3 wc mf eb O1 w1 res mo so → Held S Oc wc O1 w1 → Tree P x0 Fin (reset O1) (G (c.finish (.tuple #[so, .int .i64 0])) cs) w1) :
    ∀ (T F : Nat) (fro : List Fro) (qs : List (List Ent)) (sn : List Snd) (out : List Ent) (mo : Nat) (so : Value) (O : Gh) (w : World) (f : Nat → Value), total qs = T → mrg T n qs out = res → out.length + T < 100000 → fro.length < 1000000 →
      I3 ty Wg e eb S Oc wc mf sf O w fro qs sn → mf < w.heap.size → B3 wc mf eb O w out mo so → f 1 = .int .i64 n → f 8 = ptr eb 0 → f 9 = ptr Wg 0 → f 10 = sf → f 14 = so →
      MRun P ty Wg e (AnchAll ty Wg Fin) (T + F + 1) S sn O (G (Fr (base 11) 94 f [] [.code body3, .inLoop body3, .inBlock 4, .code rest28, .inScope scope11]) (c :: cs)) w := by
  intro T
  induction T with
  | zero =>
    intro F fro qs sn out mo so O w f hT hres hlen hfl hI hmf hB h1 h8 h9 h10 h14
    have hres' : out = res := hres
    subst hres'
    have out0 : ∀ (O1 : Gh) (w1 : World) (f : Nat → Value), Rel x0 O w O1 w1 → f 8 = ptr eb 0 → f 9 = ptr Wg 0 → f 14 = so → MRun P ty Wg e (AnchAll ty Wg Fin) (0 + F + 1) S sn O1 (G (Fr (base 11) 94 f [] [.code rest28, .inScope scope11]) (c :: cs)) w1 := by
      intro O1 w1 f r h8 h9 h14
      have hI1 := hI.rel r
      exact fin3 ty Wg e (0 + F) S eb Fin sn so O1 w1 f c cs h8 h9 h14 hI1.eb_known (hI1.held.deaf.trans hdc) hI1.hwg hI1.shp hI1.het hI1.hel fun O2 w2 r2 => hfin mo so O2 w2 ((hB.rel r).rel r2) ((hI.held.rel r).rel r2)
    show Tree P x0 (MStop P ty Wg e (AnchAll ty Wg Fin) (MRun P ty Wg e (AnchAll ty Wg Fin) (0 + F)) S sn) _ _ _
    have hso : SlE (ldOf x0 O w) so out := hB.bo.sl
    have hl := hso.len
    refine t_seq ?_
    refine t_seq ?_
    refine t_region ?_
    by_cases hn : (out.length : Int) < n
    · have hd0 : decide ((out.length : Int) < n) = true := decide_eq_true hn
      repeat (first
        | (refine t_skG rfl (by decide) rfl ?_)
        | (refine t_skU rfl (by decide) rfl ?_)
        | (first | refine t_rdG (by decide) rfl (by decide) rfl (fun K hK => ?_) | refine t_rd (by decide) (fun K hK => ?_)
           simp only [Xa, Xb, Xc, Xd, Xe, Xf, Xg, Xh, Xi, Xj, Xk, Xl, Xm, Xn, Xo, Xp, Xq, Xr, Xs, Xt, Xu, Xv, Xw, Xx, Xy, Xz, XA, XB, XD, XE, XF, XG, XH, XI, ev, XJ, upd, args1, args2, args3, args4, XK, XL, XM, extL, XN, XO, XP, XQ, XR, XT, XU, XV, XW, XX, XY, XZ, X0, X1, X2, X3, Addr.add, ↓reduceIte, Nat.reduceLT, Nat.reduceEqDiff, Nat.zero_add, Nat.reduceAdd, Option.map_some, X4, List.getElem_toArray, List.getElem_cons_zero, List.getElem_cons_succ, h14, h1, hl, hd0]
           refine hK _ ?_
           clear hK K))
      refine t_done ?_
      refine t_true rfl ?_
      refine t_skip ?_
      refine t_block ?_
      refine t_seq ?_
      refine t_region ?_
      iterate 1 (first
        | (refine t_skG rfl (by decide) rfl ?_)
        | (refine t_skU rfl (by decide) rfl ?_)
        | (first | refine t_rdG (by decide) rfl (by decide) rfl (fun K hK => ?_) | refine t_rd (by decide) (fun K hK => ?_)
           simp only [Xa, Xb, Xc, Xd, Xe, Xf, Xg, Xh, Xi, Xj, Xk, Xl, Xm, Xn, Xo, Xp, Xq, Xr, Xs, Xt, Xu, Xv, Xw, Xx, Xy, Xz, XA, XB, XD, XE, XF, XG, XH, XI, ev, XJ, upd, args1, args2, args3, args4, XK, XL, XM, extL, XN, XO, XP, XQ, XR, XT, XU, XV, XW, XX, XY, XZ, X0, X1, X2, X3, Addr.add, ↓reduceIte, Nat.reduceLT, Nat.reduceEqDiff, Nat.zero_add, Nat.reduceAdd, Option.map_some, X4, List.getElem_toArray, List.getElem_cons_zero, List.getElem_cons_succ, h10]
           refine hK _ ?_
           clear hK K))
      refine t_callA #[sf] (by decide) Try.func29 nm29 rfl (by simp only [List.map_toArray, List.map_cons, List.map_nil, Xa, Xb, Xc, Xd, Xe, Xf, Xg, Xh, Xi, Xj, Xk, Xl, Xm, Xn, Xo, Xp, Xq, Xr, Xs, Xt, Xu, Xv, Xw, Xx, Xy, Xz, XA, XB, XD, XE, XF, XG, XH, XI, ev, XJ, upd, args1, args2, args3, args4, XK, XL, XM, extL, XN, XO, XP, XQ, XR, XT, XU, XV, XW, XX, XY, XZ, X0, X1, X2, X3, Addr.add, ↓reduceIte, Nat.reduceLT, Nat.reduceEqDiff, Nat.zero_add, Nat.reduceAdd, Option.map_some, X4, List.getElem_toArray, List.getElem_cons_zero, List.getElem_cons_succ]) ?_
      intro c2 hret
      refine least_M fro sf O w c2 (c :: cs) ⟨hI.bf.sl, fun q hq => (hI.fros.ok q hq).known⟩ hfl ?_
      intro O1 w1 r1
      have hb := hI.mat.best
      rw [bestQ_none hT] at hb
      have hb0 : bestOf fro 0 none = none := by
        cases hx : bestOf fro 0 none with
        | none => rfl
        | some p => rw [hx] at hb; cases hb
      rw [hb0]
      refine hret (.pointer none) O1 w1 ?_
      repeat (first
        | (refine t_skG rfl (by decide) rfl ?_)
        | (refine t_skU rfl (by decide) rfl ?_)
        | (first | refine t_rdG (by decide) rfl (by decide) rfl (fun K hK => ?_) | refine t_rd (by decide) (fun K hK => ?_)
           simp only [Xa, Xb, Xc, Xd, Xe, Xf, Xg, Xh, Xi, Xj, Xk, Xl, Xm, Xn, Xo, Xp, Xq, Xr, Xs, Xt, Xu, Xv, Xw, Xx, Xy, Xz, XA, XB, XD, XE, XF, XG, XH, XI, ev, XJ, upd, args1, args2, args3, args4, XK, XL, XM, extL, XN, XO, XP, XQ, XR, XT, XU, XV, XW, XX, XY, XZ, X0, X1, X2, X3, Addr.add, ↓reduceIte, Nat.reduceLT, Nat.reduceEqDiff, Nat.zero_add, Nat.reduceAdd, Option.map_some, X4, List.getElem_toArray, List.getElem_cons_zero, List.getElem_cons_succ]
           refine hK _ ?_
           clear hK K))
      refine t_done ?_
      refine t_seq ?_
      refine t_seq ?_
      refine t_region ?_
      repeat (first
        | (refine t_skG rfl (by decide) rfl ?_)
        | (refine t_skU rfl (by decide) rfl ?_)
        | (first | refine t_rdG (by decide) rfl (by decide) rfl (fun K hK => ?_) | refine t_rd (by decide) (fun K hK => ?_)
           simp only [Xa, Xb, Xc, Xd, Xe, Xf, Xg, Xh, Xi, Xj, Xk, Xl, Xm, Xn, Xo, Xp, Xq, Xr, Xs, Xt, Xu, Xv, Xw, Xx, Xy, Xz, XA, XB, XD, XE, XF, XG, XH, XI, ev, XJ, upd, args1, args2, args3, args4, XK, XL, XM, extL, XN, XO, XP, XQ, XR, XT, XU, XV, XW, XX, XY, XZ, X0, X1, X2, X3, Addr.add, ↓reduceIte, Nat.reduceLT, Nat.reduceEqDiff, Nat.zero_add, Nat.reduceAdd, Option.map_some, X4, List.getElem_toArray, List.getElem_cons_zero, List.getElem_cons_succ, bin_eqlNil, Option.isNone_none]
           refine hK _ ?_
           clear hK K))
      refine t_done ?_
      refine t_true rfl ?_
      refine t_exit rfl ?_
      exact out0 O1 w1 _ r1 h8 h9 h14
    · have hd0 : decide ((out.length : Int) < n) = false := decide_eq_false hn
      repeat (first
        | (refine t_skG rfl (by decide) rfl ?_)
        | (refine t_skU rfl (by decide) rfl ?_)
        | (first | refine t_rdG (by decide) rfl (by decide) rfl (fun K hK => ?_) | refine t_rd (by decide) (fun K hK => ?_)
           simp only [Xa, Xb, Xc, Xd, Xe, Xf, Xg, Xh, Xi, Xj, Xk, Xl, Xm, Xn, Xo, Xp, Xq, Xr, Xs, Xt, Xu, Xv, Xw, Xx, Xy, Xz, XA, XB, XD, XE, XF, XG, XH, XI, ev, XJ, upd, args1, args2, args3, args4, XK, XL, XM, extL, XN, XO, XP, XQ, XR, XT, XU, XV, XW, XX, XY, XZ, X0, X1, X2, X3, Addr.add, ↓reduceIte, Nat.reduceLT, Nat.reduceEqDiff, Nat.zero_add, Nat.reduceAdd, Option.map_some, X4, List.getElem_toArray, List.getElem_cons_zero, List.getElem_cons_succ, h14, h1, hl, hd0]
           refine hK _ ?_
           clear hK K))
      refine t_done ?_
      refine t_false rfl ?_
      refine t_exit rfl ?_
      exact out0 O w _ (Rel.refl _ _ _) h8 h9 h14
  | succ T ih =>
    intro F fro qs sn out mo so O w f hT hres hlen hfl hI hmf hB h1 h8 h9 h10 h14
    have out0 : out = res → ∀ (O1 : Gh) (w1 : World) (f : Nat → Value), Rel x0 O w O1 w1 → f 8 = ptr eb 0 → f 9 = ptr Wg 0 → f 14 = so → MRun P ty Wg e (AnchAll ty Wg Fin) (T + 1 + F + 1) S sn O1 (G (Fr (base 11) 94 f [] [.code rest28, .inScope scope11]) (c :: cs)) w1 := by
      intro hres' O1 w1 f r h8 h9 h14
      subst hres'
      have hI1 := hI.rel r
      exact fin3 ty Wg e (T + 1 + F) S eb Fin sn so O1 w1 f c cs h8 h9 h14 hI1.eb_known (hI1.held.deaf.trans hdc) hI1.hwg hI1.shp hI1.het hI1.hel fun O2 w2 r2 => hfin mo so O2 w2 ((hB.rel r).rel r2) ((hI.held.rel r).rel r2)
    show Tree P x0 (MStop P ty Wg e (AnchAll ty Wg Fin) (MRun P ty Wg e (AnchAll ty Wg Fin) (T + 1 + F)) S sn) _ _ _
    have hso : SlE (ldOf x0 O w) so out := hB.bo.sl
    have hl := hso.len
    refine t_seq ?_
    refine t_seq ?_
    refine t_region ?_
    by_cases hn : (out.length : Int) < n
    · have hd0 : decide ((out.length : Int) < n) = true := decide_eq_true hn
      repeat (first
        | (refine t_skG rfl (by decide) rfl ?_)
        | (refine t_skU rfl (by decide) rfl ?_)
        | (first | refine t_rdG (by decide) rfl (by decide) rfl (fun K hK => ?_) | refine t_rd (by decide) (fun K hK => ?_)
           simp only [Xa, Xb, Xc, Xd, Xe, Xf, Xg, Xh, Xi, Xj, Xk, Xl, Xm, Xn, Xo, Xp, Xq, Xr, Xs, Xt, Xu, Xv, Xw, Xx, Xy, Xz, XA, XB, XD, XE, XF, XG, XH, XI, ev, XJ, upd, args1, args2, args3, args4, XK, XL, XM, extL, XN, XO, XP, XQ, XR, XT, XU, XV, XW, XX, XY, XZ, X0, X1, X2, X3, Addr.add, ↓reduceIte, Nat.reduceLT, Nat.reduceEqDiff, Nat.zero_add, Nat.reduceAdd, Option.map_some, X4, List.getElem_toArray, List.getElem_cons_zero, List.getElem_cons_succ, h14, h1, hl, hd0]
           refine hK _ ?_
           clear hK K))
      refine t_done ?_
      refine t_true rfl ?_
      refine t_skip ?_
      refine t_block ?_
      refine t_seq ?_
      refine t_region ?_
      iterate 1 (first
        | (refine t_skG rfl (by decide) rfl ?_)
        | (refine t_skU rfl (by decide) rfl ?_)
        | (first | refine t_rdG (by decide) rfl (by decide) rfl (fun K hK => ?_) | refine t_rd (by decide) (fun K hK => ?_)
           simp only [Xa, Xb, Xc, Xd, Xe, Xf, Xg, Xh, Xi, Xj, Xk, Xl, Xm, Xn, Xo, Xp, Xq, Xr, Xs, Xt, Xu, Xv, Xw, Xx, Xy, Xz, XA, XB, XD, XE, XF, XG, XH, XI, ev, XJ, upd, args1, args2, args3, args4, XK, XL, XM, extL, XN, XO, XP, XQ, XR, XT, XU, XV, XW, XX, XY, XZ, X0, X1, X2, X3, Addr.add, ↓reduceIte, Nat.reduceLT, Nat.reduceEqDiff, Nat.zero_add, Nat.reduceAdd, Option.map_some, X4, List.getElem_toArray, List.getElem_cons_zero, List.getElem_cons_succ, h10]
           refine hK _ ?_
           clear hK K))
      refine t_callA #[sf] (by decide) Try.func29 nm29 rfl (by simp only [List.map_toArray, List.map_cons, List.map_nil, Xa, Xb, Xc, Xd, Xe, Xf, Xg, Xh, Xi, Xj, Xk, Xl, Xm, Xn, Xo, Xp, Xq, Xr, Xs, Xt, Xu, Xv, Xw, Xx, Xy, Xz, XA, XB, XD, XE, XF, XG, XH, XI, ev, XJ, upd, args1, args2, args3, args4, XK, XL, XM, extL, XN, XO, XP, XQ, XR, XT, XU, XV, XW, XX, XY, XZ, X0, X1, X2, X3, Addr.add, ↓reduceIte, Nat.reduceLT, Nat.reduceEqDiff, Nat.zero_add, Nat.reduceAdd, Option.map_some, X4, List.getElem_toArray, List.getElem_cons_zero, List.getElem_cons_succ]) ?_
      intro c2 hret
      refine least_M fro sf O w c2 (c :: cs) ⟨hI.bf.sl, fun q hq => (hI.fros.ok q hq).known⟩ hfl ?_
      intro O1 w1 r1
      have hb := hI.mat.best
      cases hx : bestOf fro 0 none with
      | none =>
        rw [hx] at hb
        have hres' : out = res := by
          rw [mrg, if_pos hn, ← hb] at hres
          exact hres
        refine hret (.pointer none) O1 w1 ?_
        repeat (first
          | (refine t_skG rfl (by decide) rfl ?_)
          | (refine t_skU rfl (by decide) rfl ?_)
          | (first | refine t_rdG (by decide) rfl (by decide) rfl (fun K hK => ?_) | refine t_rd (by decide) (fun K hK => ?_)
             simp only [Xa, Xb, Xc, Xd, Xe, Xf, Xg, Xh, Xi, Xj, Xk, Xl, Xm, Xn, Xo, Xp, Xq, Xr, Xs, Xt, Xu, Xv, Xw, Xx, Xy, Xz, XA, XB, XD, XE, XF, XG, XH, XI, ev, XJ, upd, args1, args2, args3, args4, XK, XL, XM, extL, XN, XO, XP, XQ, XR, XT, XU, XV, XW, XX, XY, XZ, X0, X1, X2, X3, Addr.add, ↓reduceIte, Nat.reduceLT, Nat.reduceEqDiff, Nat.zero_add, Nat.reduceAdd, Option.map_some, X4, List.getElem_toArray, List.getElem_cons_zero, List.getElem_cons_succ]
             refine hK _ ?_
             clear hK K))
        refine t_done ?_
        refine t_seq ?_
        refine t_seq ?_
        refine t_region ?_
        repeat (first
          | (refine t_skG rfl (by decide) rfl ?_)
          | (refine t_skU rfl (by decide) rfl ?_)
          | (first | refine t_rdG (by decide) rfl (by decide) rfl (fun K hK => ?_) | refine t_rd (by decide) (fun K hK => ?_)
             simp only [Xa, Xb, Xc, Xd, Xe, Xf, Xg, Xh, Xi, Xj, Xk, Xl, Xm, Xn, Xo, Xp, Xq, Xr, Xs, Xt, Xu, Xv, Xw, Xx, Xy, Xz, XA, XB, XD, XE, XF, XG, XH, XI, ev, XJ, upd, args1, args2, args3, args4, XK, XL, XM, extL, XN, XO, XP, XQ, XR, XT, XU, XV, XW, XX, XY, XZ, X0, X1, X2, X3, Addr.add, ↓reduceIte, Nat.reduceLT, Nat.reduceEqDiff, Nat.zero_add, Nat.reduceAdd, Option.map_some, X4, List.getElem_toArray, List.getElem_cons_zero, List.getElem_cons_succ, bin_eqlNil, Option.isNone_none]
             refine hK _ ?_
             clear hK K))
        refine t_done ?_
        refine t_true rfl ?_
        refine t_exit rfl ?_
        exact out0 hres' O1 w1 _ r1 h8 h9 h14
      | some pq =>
        obtain ⟨i, q⟩ := pq
        rw [hx] at hb
        have hbq : bestQ qs 0 none = some (i, q.e) := hb.symm
        have hres' : mrg T n (popAt qs i) (takeOut out q.e) = res := by
          rw [mrg, if_pos hn, hbq] at hres
          exact hres
        obtain ⟨r, hqi⟩ := bestQ_get hbq
        have hfi : fro[i]? = some q := by
          rcases bestOf_mem fro 0 none i q hx with h | ⟨_, h, _⟩
          · cases h
          · simpa using h
        have hpop := total_pop hqi
        have hI1 := hI.rel r1
        have hB1 := hB.rel r1
        have hq1 := hI1.fros.ok q (List.mem_of_getElem? hfi)
        have hsn := (hI1.mat.fq i q _ hfi hqi).2
        rw [List.tail_cons] at hsn
        rw [bestV_some]
        refine hret _ O1 w1 ?_
        clear hret
        repeat (first
          | (refine t_skG rfl (by decide) rfl ?_)
          | (refine t_skU rfl (by decide) rfl ?_)
          | (first | refine t_rdG (by decide) rfl (by decide) rfl (fun K hK => ?_) | refine t_rd (by decide) (fun K hK => ?_)
             simp only [Xa, Xb, Xc, Xd, Xe, Xf, Xg, Xh, Xi, Xj, Xk, Xl, Xm, Xn, Xo, Xp, Xq, Xr, Xs, Xt, Xu, Xv, Xw, Xx, Xy, Xz, XA, XB, XD, XE, XF, XG, XH, XI, ev, XJ, upd, args1, args2, args3, args4, XK, XL, XM, extL, XN, XO, XP, XQ, XR, XT, XU, XV, XW, XX, XY, XZ, X0, X1, X2, X3, Addr.add, ↓reduceIte, Nat.reduceLT, Nat.reduceEqDiff, Nat.zero_add, Nat.reduceAdd, Option.map_some, X4, List.getElem_toArray, List.getElem_cons_zero, List.getElem_cons_succ]
             refine hK _ ?_
             clear hK K))
        refine t_done ?_
        refine t_seq ?_
        refine t_seq ?_
        refine t_region ?_
        repeat (first
          | (refine t_skG rfl (by decide) rfl ?_)
          | (refine t_skU rfl (by decide) rfl ?_)
          | (first | refine t_rdG (by decide) rfl (by decide) rfl (fun K hK => ?_) | refine t_rd (by decide) (fun K hK => ?_)
             simp only [Xa, Xb, Xc, Xd, Xe, Xf, Xg, Xh, Xi, Xj, Xk, Xl, Xm, Xn, Xo, Xp, Xq, Xr, Xs, Xt, Xu, Xv, Xw, Xx, Xy, Xz, XA, XB, XD, XE, XF, XG, XH, XI, ev, XJ, upd, args1, args2, args3, args4, XK, XL, XM, extL, XN, XO, XP, XQ, XR, XT, XU, XV, XW, XX, XY, XZ, X0, X1, X2, X3, Addr.add, ↓reduceIte, Nat.reduceLT, Nat.reduceEqDiff, Nat.zero_add, Nat.reduceAdd, Option.map_some, X4, List.getElem_toArray, List.getElem_cons_zero, List.getElem_cons_succ, bin_eqlNil, Option.isNone_some]
             refine hK _ ?_
             clear hK K))
        refine t_done ?_
        refine t_false rfl ?_
        refine t_skip ?_
        refine t_seq ?_
        refine t_region ?_
        have aq1 : Addr.add ⟨q.b, 0, none⟩ 1 = ⟨q.b, 1, none⟩ := by rw [add_none, Nat.zero_add]
        have wq := hq1.known.whole
        iterate 4 (first
          | (refine t_skG rfl (by decide) rfl ?_)
          | (refine t_skU rfl (by decide) rfl ?_)
          | (first | refine t_rdG (by decide) rfl (by decide) rfl (fun K hK => ?_) | refine t_rd (by decide) (fun K hK => ?_)
             simp only [Xa, Xb, Xc, Xd, Xe, Xf, Xg, Xh, Xi, Xj, Xk, Xl, Xm, Xn, Xo, Xp, Xq, Xr, Xs, Xt, Xu, Xv, Xw, Xx, Xy, Xz, XA, XB, XD, XE, XF, XG, XH, XI, ev, XJ, upd, args1, args2, args3, args4, XK, XL, XM, extL, XN, XO, XP, XQ, XR, XT, XU, XV, XW, XX, XY, XZ, X0, X1, X2, X3, Addr.add, ↓reduceIte, Nat.reduceLT, Nat.reduceEqDiff, Nat.zero_add, Nat.reduceAdd, Option.map_some, X4, List.getElem_toArray, List.getElem_cons_zero, List.getElem_cons_succ, x_nil, nilL_some, Option.isSome_some, aq1, wq]
             refine hK _ ?_
             clear hK K))
        refine t_alloc (by decide) (zero37 _) ?_
        intro m1 O2 w2 n2
        refine t_store (sz := 4) (m := m1) (off := 0) [.string q.e.key, .int .i64 q.e.seq, .bool q.e.del, .string q.e.val] (by decide) rfl (by simp only [Xa, Xb, Xc, Xd, Xe, Xf, Xg, Xh, Xi, Xj, Xk, Xl, Xm, Xn, Xo, Xp, Xq, Xr, Xs, Xt, Xu, Xv, Xw, Xx, Xy, Xz, XA, XB, XD, XE, XF, XG, XH, XI, ev, XJ, upd, args1, args2, args3, args4, XK, XL, XM, extL, XN, XO, XP, XQ, XR, XT, XU, XV, XW, XX, XY, XZ, X0, X1, X2, X3, Addr.add, ↓reduceIte, Nat.reduceLT, Nat.reduceEqDiff, Nat.zero_add, Nat.reduceAdd, Option.map_some, X4, List.getElem_toArray, List.getElem_cons_zero, List.getElem_cons_succ]) (by simp only [Xa, Xb, Xc, Xd, Xe, Xf, Xg, Xh, Xi, Xj, Xk, Xl, Xm, Xn, Xo, Xp, Xq, Xr, Xs, Xt, Xu, Xv, Xw, Xx, Xy, Xz, XA, XB, XD, XE, XF, XG, XH, XI, ev, XJ, upd, args1, args2, args3, args4, XK, XL, XM, extL, XN, XO, XP, XQ, XR, XT, XU, XV, XW, XX, XY, XZ, X0, X1, X2, X3, Addr.add, ↓reduceIte, Nat.reduceLT, Nat.reduceEqDiff, Nat.zero_add, Nat.reduceAdd, Option.map_some, X4, List.getElem_toArray, List.getElem_cons_zero, List.getElem_cons_succ]; rfl) rfl (by simp [one?]) (.inl n2.tag) n2.obj (by decide) ?_
        intro O3 w3 w4 r3 hm4 ht4 hb4
        have r4 : Rel x0 O1 w1 O3 w4 := ((n2.rel.trans r3).mod hm4 n2.ge)
        have hI4 := hI1.rel r4
        have hB4 := hB1.rel r4
        have m1t : O3.tag m1 = .mine 0 := ht4.trans n2.tag
        refine t_done ?_
        refine t_seq ?_
        have hW := ctl_tree x0 (MStop P ty Wg e (AnchAll ty Wg Fin) (MRun P ty Wg e (AnchAll ty Wg Fin) (T + 1 + F)) S sn) O3 w4
        refine c_region hW ?_
        iterate 1 (first
          | (refine c_skG hW rfl (by decide) rfl ?_)
          | (refine c_skU hW rfl (by decide) rfl ?_)
          | (first | refine c_rdG hW (by decide) rfl (by decide) rfl (fun K hK => ?_) | refine c_rd hW (by decide) (fun K hK => ?_)
             simp only [Xa, Xb, Xc, Xd, Xe, Xf, Xg, Xh, Xi, Xj, Xk, Xl, Xm, Xn, Xo, Xp, Xq, Xr, Xs, Xt, Xu, Xv, Xw, Xx, Xy, Xz, XA, XB, XD, XE, XF, XG, XH, XI, ev, XJ, upd, args1, args2, args3, args4, XK, XL, XM, extL, XN, XO, XP, XQ, XR, XT, XU, XV, XW, XX, XY, XZ, X0, X1, X2, X3, Addr.add, ↓reduceIte, Nat.reduceLT, Nat.reduceEqDiff, Nat.zero_add, Nat.reduceAdd, Option.map_some, X4, List.getElem_toArray, List.getElem_cons_zero, List.getElem_cons_succ, x_nil, nilL_some, Option.isSome_some, x_f61_1, x_f61_2, x_f58_2, x_cv3_56, x_cv56_21, x_cv56_59, x_cv3_21, convL_int, bin_shl64, bin_shr64, bin_andB]
             refine hK _ ?_
             clear hK K))
        refine c_call hW #[q.ptr] (by decide) Try.func28 nm28 rfl (by simp only [List.map_toArray, List.map_cons, List.map_nil, Xa, Xb, Xc, Xd, Xe, Xf, Xg, Xh, Xi, Xj, Xk, Xl, Xm, Xn, Xo, Xp, Xq, Xr, Xs, Xt, Xu, Xv, Xw, Xx, Xy, Xz, XA, XB, XD, XE, XF, XG, XH, XI, ev, XJ, upd, args1, args2, args3, args4, XK, XL, XM, extL, XN, XO, XP, XQ, XR, XT, XU, XV, XW, XX, XY, XZ, X0, X1, X2, X3, Addr.add, ↓reduceIte, Nat.reduceLT, Nat.reduceEqDiff, Nat.zero_add, Nat.reduceAdd, Option.map_some, X4, List.getElem_toArray, List.getElem_cons_zero, List.getElem_cons_succ, x_nil, nilL_some, Option.isSome_some, x_f61_1, x_f61_2, x_f58_2, x_cv3_56, x_cv56_21, x_cv56_59, x_cv3_21, convL_int, bin_shl64, bin_shr64, bin_andB]; rfl) ?_
        intro c3 hgo
        clear hW
        have hfu : T + 1 + F + 1 = T + F + 2 := by omega
        show MRun P ty Wg e (AnchAll ty Wg Fin) (T + 1 + F + 1) S sn _ _ _
        rw [hfu]
        refine next_M ty Wg e (T + F) S (AnchAll ty Wg Fin) sn i q r O3 w4 c3 (c :: cs) (hq1.rely r4) hsn ?_
        intro O5 w5 k5 hq5
        have hI5 := hI4.relM hfi hqi k5 hq5
        have hB5 := hB4.relM k5 (hq1.rely r4).tag
        have hm1l : m1 < w4.heap.size := (Array.getElem?_eq_some_iff.1 hb4).1
        have hm1q : m1 ≠ q.b := fun e => by have := (hq1.rely r4).tag; rw [← e, m1t] at this; cases this
        have m1t5 : O5.tag m1 = .mine 0 := (k5.tags m1 hm1l (.inl m1t)).trans m1t
        have hb5 := (k5.block m1 hm1l hm1q (.inl m1t)).trans hb4
        have l0 : ldOf x0 O5 w5 ⟨m1, 0, none⟩ = some (.string q.e.key) := ldOf_of (.inl m1t5) (by unfold World.cell?; rw [hb5]; rfl)
        have l1 : ldOf x0 O5 w5 ⟨m1, 1, none⟩ = some (.int .i64 q.e.seq) := ldOf_of (.inl m1t5) (by unfold World.cell?; rw [hb5]; rfl)
        have l2 : ldOf x0 O5 w5 ⟨m1, 2, none⟩ = some (.bool q.e.del) := ldOf_of (.inl m1t5) (by unfold World.cell?; rw [hb5]; rfl)
        have l3 : ldOf x0 O5 w5 ⟨m1, 3, none⟩ = some (.string q.e.val) := ldOf_of (.inl m1t5) (by unfold World.cell?; rw [hb5]; rfl)
        show Tree P x0 (MStop P ty Wg e (AnchAll ty Wg Fin) (MRun P ty Wg e (AnchAll ty Wg Fin) (T + F)) S (rcvS sn i q.c r)) _ _ _
        refine hgo (fun g => Tree P x0 (MStop P ty Wg e (AnchAll ty Wg Fin) (MRun P ty Wg e (AnchAll ty Wg Fin) (T + F)) S (rcvS sn i q.c r)) O5 g w5) _ ?_
        clear hgo
        refine (?_ : InReg P x0 _ O5 w5 _ _ _ _ _ _ _ _ _)
        refine t_done ?_
        refine t_seq ?_
        have hso5 : SlE (ldOf x0 O5 w5) so out := hB5.bo.sl
        have hl5 := hso5.len
        refine t_seq ?_
        refine t_region ?_
        repeat (first
          | (refine t_skG rfl (by decide) rfl ?_)
          | (refine t_skU rfl (by decide) rfl ?_)
          | (first | refine t_rdG (by decide) rfl (by decide) rfl (fun K hK => ?_) | refine t_rd (by decide) (fun K hK => ?_)
             simp only [Xa, Xb, Xc, Xd, Xe, Xf, Xg, Xh, Xi, Xj, Xk, Xl, Xm, Xn, Xo, Xp, Xq, Xr, Xs, Xt, Xu, Xv, Xw, Xx, Xy, Xz, XA, XB, XD, XE, XF, XG, XH, XI, ev, XJ, upd, args1, args2, args3, args4, XK, XL, XM, extL, XN, XO, XP, XQ, XR, XT, XU, XV, XW, XX, XY, XZ, X0, X1, X2, X3, Addr.add, ↓reduceIte, Nat.reduceLT, Nat.reduceEqDiff, Nat.zero_add, Nat.reduceAdd, Option.map_some, X4, List.getElem_toArray, List.getElem_cons_zero, List.getElem_cons_succ, h14, hl5]
             refine hK _ ?_
             clear hK K))
        refine t_done ?_
        have am0 : Addr.add ⟨m1, 0, none⟩ 0 = ⟨m1, 0, none⟩ := add_none _ _ _
        have am1 : Addr.add ⟨m1, 0, none⟩ 1 = ⟨m1, 1, none⟩ := by rw [add_none, Nat.zero_add]
        have hmf5 : mf < w5.heap.size := Nat.lt_of_lt_of_le (Nat.lt_of_lt_of_le (Nat.lt_of_lt_of_le hmf r1.size) r4.size) k5.size
        -- behind the test
        have goOn : ∀ (out' : List Ent) (mo' : Nat) (so' : Value) (O6 : Gh) (w6 : World) (f : Nat → Value), takeOut out q.e = out' → I3 ty Wg e eb S Oc wc mf sf O6 w6 (fro.set i (rcvE q r)) (popAt qs i) (rcvS sn i q.c r) → mf < w6.heap.size → B3 wc mf eb O6 w6 out' mo' so' →
            f 1 = .int .i64 n → f 8 = ptr eb 0 → f 9 = ptr Wg 0 → f 10 = sf → f 14 = so' →
            Tree P x0 (MStop P ty Wg e (AnchAll ty Wg Fin) (MRun P ty Wg e (AnchAll ty Wg Fin) (T + F)) S (rcvS sn i q.c r)) O6 (G (Fr (base 11) 94 f [] [.inLoop body3, .inBlock 4, .code rest28, .inScope scope11]) (c :: cs)) w6 := by
          intro out' mo' so' O6 w6 f ho' hI6 hmf6 hB6 g1 g8 g9 g10 g14
          refine t_inLoop ?_
          have hle : (takeOut out q.e).length ≤ out.length + 1 := by unfold takeOut; split <;> simp
          subst ho'
          exact ih F _ _ _ _ mo' so' O6 w6 f (by omega) hres' (by omega) (by rw [List.length_set]; exact hfl) hI6 hmf6 hB6 g1 g8 g9 g10 g14
        have skipIt : ∀ (O6 : Gh) (w6 : World) (f : Nat → Value), takeOut out q.e = out → Rel x0 O5 w5 O6 w6 → f 1 = .int .i64 n → f 8 = ptr eb 0 → f 9 = ptr Wg 0 → f 10 = sf → f 14 = so →
            Tree P x0 (MStop P ty Wg e (AnchAll ty Wg Fin) (MRun P ty Wg e (AnchAll ty Wg Fin) (T + F)) S (rcvS sn i q.c r)) O6 (G (Fr (base 11) 94 f [] [.inLoop body3, .inBlock 4, .code rest28, .inScope scope11]) (c :: cs)) w6 := fun O6 w6 f ho r6 => goOn out mo so O6 w6 f ho (hI5.rel r6) (Nat.lt_of_lt_of_le hmf5 r6.size) (hB5.rel r6)
        have addIt : ∀ (O6 : Gh) (w6 : World) (f : Nat → Value), takeOut out q.e = out ++ [q.e] → Rel x0 O5 w5 O6 w6 → f 1 = .int .i64 n → f 8 = ptr eb 0 → f 9 = ptr Wg 0 → f 10 = sf → f 14 = so → f 16 = .pointer (some ⟨m1, 0, none⟩) →
            Tree P x0 (MStop P ty Wg e (AnchAll ty Wg Fin) (MRun P ty Wg e (AnchAll ty Wg Fin) (T + F)) S (rcvS sn i q.c r)) O6 (G (Fr (base 11) 94 f [] [.code rest27f, .inBlock 5, .inLoop body3, .inBlock 4, .code rest28, .inScope scope11]) (c :: cs)) w6 := by
          intro O6 w6 f hto r6 g1 g8 g9 g10 g14 g16
          have lw6 : loadN (ldOf x0 O6 w6) 4 (.pointer (some ⟨m1, 0, none⟩)) = some (.value q.e.v) := loadN4 (by rw [add_none]; exact ldOf_rely r6 l0) (by rw [add_none]; exact ldOf_rely r6 l1) (by rw [add_none]; exact ldOf_rely r6 l2) (by rw [add_none]; exact ldOf_rely r6 l3)
          have hI6 := hI5.rel r6
          have hB6 := hB5.rel r6
          have hmf6 : mf < w6.heap.size := Nat.lt_of_lt_of_le hmf5 r6.size
          have heb6 : eb < w6.heap.size := (Array.getElem?_eq_some_iff.1 hI6.ebC).1
          refine t_region ?_
          iterate 2 (first
            | (refine t_skG rfl (by decide) rfl ?_)
            | (refine t_skU rfl (by decide) rfl ?_)
            | (first | refine t_rdG (by decide) rfl (by decide) rfl (fun K hK => ?_) | refine t_rd (by decide) (fun K hK => ?_)
               simp only [Xa, Xb, Xc, Xd, Xe, Xf, Xg, Xh, Xi, Xj, Xk, Xl, Xm, Xn, Xo, Xp, Xq, Xr, Xs, Xt, Xu, Xv, Xw, Xx, Xy, Xz, XA, XB, XD, XE, XF, XG, XH, XI, ev, XJ, upd, args1, args2, args3, args4, XK, XL, XM, extL, XN, XO, XP, XQ, XR, XT, XU, XV, XW, XX, XY, XZ, X0, X1, X2, X3, Addr.add, ↓reduceIte, Nat.reduceLT, Nat.reduceEqDiff, Nat.zero_add, Nat.reduceAdd, Option.map_some, X4, List.getElem_toArray, List.getElem_cons_zero, List.getElem_cons_succ, g14, g16, lw6]
               refine hK _ ?_
               clear hK K))
          refine t_buildSlice (sz := 4) (cells := q.e.cells) (pv := #[(0, q.e.v)]) Try.underlying25 rfl (by decide) zero37 (by decide) (by simp only [List.map_toArray, List.map_cons, List.map_nil, Xa, Xb, Xc, Xd, Xe, Xf, Xg, Xh, Xi, Xj, Xk, Xl, Xm, Xn, Xo, Xp, Xq, Xr, Xs, Xt, Xu, Xv, Xw, Xx, Xy, Xz, XA, XB, XD, XE, XF, XG, XH, XI, ev, XJ, upd, args1, args2, args3, args4, XK, XL, XM, extL, XN, XO, XP, XQ, XR, XT, XU, XV, XW, XX, XY, XZ, X0, X1, X2, X3, Addr.add, ↓reduceIte, Nat.reduceLT, Nat.reduceEqDiff, Nat.zero_add, Nat.reduceAdd, Option.map_some, X4, List.getElem_toArray, List.getElem_cons_zero, List.getElem_cons_succ]) (fun c0 h0 => by
            rw [fill_one (off := 0) (sz := 4) rfl rfl (by simp at h0; omega), Instr.fill]
            have : c0.toList.drop 4 = [] := List.drop_eq_nil_iff.2 (by simp; omega)
            simp [this, Value.cells, Ent.v]) ?_
          intro m3 O7 w7 h3
          have hs3 : Sl 4 (ldOf x0 O7 w7) (.slice (some ⟨m3, 0, none⟩) 1 1) [q.e.cells] := .inr ⟨m3, 0, 1, rfl, Nat.le_refl _, fun i a hi => by
            rcases i with _ | i
            · simp at hi; subst hi
              refine ⟨rfl, fun k hk => ?_⟩
              have hk4 : q.e.cells[k]? = some (q.e.cells[k]'hk) := Array.getElem?_eq_getElem hk
              rw [Nat.zero_mul, Nat.zero_add, hk4]
              exact h3.cell k _ hk4
            · simp at hi⟩
          obtain ⟨mc, hbufc, hmc⟩ : ∃ mc, Buf 4 x0 O6 w6 mc so (out.map Ent.cells) ∧ ((out = [] ∧ w6.heap.size ≤ mc) ∨ (out ≠ [] ∧ mc = mo)) := by
            by_cases ho : out = []
            · refine ⟨w6.heap.size, ?_, .inl ⟨ho, Nat.le_refl _⟩⟩
              rw [hB6.so0 ho, ho]; exact Buf.nil _ _ _ _ _
            · exact ⟨mo, hB6.bo, .inr ⟨ho, rfl⟩⟩
          refine t_append Try.underlying25 rfl rfl rfl (by decide) (by decide) (by decide) zero37 rfl (by decide) rfl rfl (hbufc.rely h3.rel) hs3 (by simp; omega) (fun a ha => cells_ok [q.e] a (by simpa using ha)) ?_
          intro O8 w8 m' s' O9 w9 r8 hm9 hbuf9 hmm
          repeat (first
            | (refine t_skG rfl (by decide) rfl ?_)
            | (refine t_skU rfl (by decide) rfl ?_)
            | (first | refine t_rdG (by decide) rfl (by decide) rfl (fun K hK => ?_) | refine t_rd (by decide) (fun K hK => ?_)
               simp only [Xa, Xb, Xc, Xd, Xe, Xf, Xg, Xh, Xi, Xj, Xk, Xl, Xm, Xn, Xo, Xp, Xq, Xr, Xs, Xt, Xu, Xv, Xw, Xx, Xy, Xz, XA, XB, XD, XE, XF, XG, XH, XI, ev, XJ, upd, args1, args2, args3, args4, XK, XL, XM, extL, XN, XO, XP, XQ, XR, XT, XU, XV, XW, XX, XY, XZ, X0, X1, X2, X3, Addr.add, ↓reduceIte, Nat.reduceLT, Nat.reduceEqDiff, Nat.zero_add, Nat.reduceAdd, Option.map_some, X4, List.getElem_toArray, List.getElem_cons_zero, List.getElem_cons_succ]
               refine hK _ ?_
               clear hK K))
          refine t_done ?_
          refine t_inBlock ?_
          have r68 := h3.rel.trans r8
          have hbuf9' : Buf 4 x0 O9 w9 m' s' ((out ++ [q.e]).map Ent.cells) := by rw [List.map_append]; exact hbuf9
          have hm'l : m' < w9.heap.size := by
            rcases hbuf9'.2 with ⟨hx, _⟩ | ⟨_, _, _, _, _, h5, _⟩
            · simp at hx
            · exact (Array.getElem?_eq_some_iff.1 h5).1
          have hwc : wc.heap.size ≤ w6.heap.size := hI6.held.size
          refine goOn (out ++ [q.e]) m' s' O9 w9 _ hto ?_ (Nat.lt_of_lt_of_le (Nat.lt_of_lt_of_le hmf6 r68.size) hm9.size) ⟨hbuf9', fun _ => ?_, fun hn => by simp at hn⟩ g1 g8 g9 g10 rfl
          · rcases hmc with ⟨ho, hge⟩ | ⟨ho, rfl⟩
            · exact hI6.rel (r68.mod hm9 hge)
            · obtain ⟨q1, q2, q3, _⟩ := hB6.mfo ho
              exact (hI6.rel r68).mod hm9 ((hB6.rel r68).tag ho) q1 q2 q3
          · rcases hmm with rfl | ⟨hge8, _⟩
            · rcases hmc with ⟨ho, hge⟩ | ⟨ho, rfl⟩
              · exact ⟨by omega, by omega, by omega, hm'l⟩
              · obtain ⟨q1, q2, q3, _⟩ := hB6.mfo ho
                exact ⟨q1, q2, q3, hm'l⟩
            · have := r68.size
              exact ⟨by omega, by omega, by omega, hm'l⟩
        refine t_seq ?_
        by_cases ho : out = []
        · have hto : takeOut out q.e = out ++ [q.e] := by subst ho; rfl
          have hd9 : decide ((0 : Int) < (out.length : Int)) = false := by subst ho; rfl
          refine t_drawn rfl (by decide) ?_
          repeat (first
            | (refine d_skG rfl (by decide) rfl ?_)
            | (refine d_skU rfl (by decide) rfl ?_)
            | (first | refine d_rdG rfl (by decide) rfl (fun K hK => ?_) | refine d_rd (fun K hK => ?_)
               simp only [Xa, Xb, Xc, Xd, Xe, Xf, Xg, Xh, Xi, Xj, Xk, Xl, Xm, Xn, Xo, Xp, Xq, Xr, Xs, Xt, Xu, Xv, Xw, Xx, Xy, Xz, XA, XB, XD, XE, XF, XG, XH, XI, ev, XJ, upd, args1, args2, args3, args4, XK, XL, XM, extL, XN, XO, XP, XQ, XR, XT, XU, XV, XW, XX, XY, XZ, X0, X1, X2, X3, Addr.add, ↓reduceIte, Nat.reduceLT, Nat.reduceEqDiff, Nat.zero_add, Nat.reduceAdd, Option.map_some, X4, List.getElem_toArray, List.getElem_cons_zero, List.getElem_cons_succ, hd9]
               refine hK _ ?_
               clear hK K))
          refine d_done ?_
          intro O6 w6 r6
          refine t_false rfl ?_
          refine t_skip ?_
          exact addIt O6 w6 _ hto r6 h1 h8 h9 h10 h14 rfl
        · have hpos : 0 < out.length := List.length_pos_iff.2 ho
          have hlast := List.getElem?_eq_getElem (show out.length - 1 < out.length by omega)
          generalize hpe : out[out.length - 1] = p at hlast
          have hlI := lastIs_snoc (a := q.e) hlast
          have hd9 : decide ((0 : Int) < (out.length : Int)) = true := decide_eq_true (by omega)
          have hw9 : IntKind.i64.wrap ((out.length : Int) - 1) = ((out.length - 1 : Nat) : Int) := by rw [wrap64] <;> omega
          obtain ⟨A, hA⟩ := hso5.at hlast
          have iA := hA.idx
          have fA := hA.f0
          have gA := hA.f1
          cases hk1 : (p.key.toList == q.e.key.toList) with
          | false =>
            have hto : takeOut out q.e = out ++ [q.e] := by unfold takeOut; rw [hlI]; simp [keq, hk1]
            refine t_drawn rfl (by decide) ?_
            repeat (first
              | (refine d_skG rfl (by decide) rfl ?_)
              | (refine d_skU rfl (by decide) rfl ?_)
              | (first | refine d_rdG rfl (by decide) rfl (fun K hK => ?_) | refine d_rd (fun K hK => ?_)
                 simp only [Xa, Xb, Xc, Xd, Xe, Xf, Xg, Xh, Xi, Xj, Xk, Xl, Xm, Xn, Xo, Xp, Xq, Xr, Xs, Xt, Xu, Xv, Xw, Xx, Xy, Xz, XA, XB, XD, XE, XF, XG, XH, XI, ev, XJ, upd, args1, args2, args3, args4, XK, XL, XM, extL, XN, XO, XP, XQ, XR, XT, XU, XV, XW, XX, XY, XZ, X0, X1, X2, X3, Addr.add, ↓reduceIte, Nat.reduceLT, Nat.reduceEqDiff, Nat.zero_add, Nat.reduceAdd, Option.map_some, X4, List.getElem_toArray, List.getElem_cons_zero, List.getElem_cons_succ, hd9, h14, hw9, iA, fA, gA, am0, am1, l0, l1, hk1]
                 refine hK _ ?_
                 clear hK K))
            refine d_done ?_
            intro O6 w6 r6
            refine t_false rfl ?_
            refine t_skip ?_
            exact addIt O6 w6 _ hto r6 h1 h8 h9 h10 h14 rfl
          | true =>
            cases hk2 : (p.seq == q.e.seq) with
            | false =>
              have hto : takeOut out q.e = out ++ [q.e] := by unfold takeOut; rw [hlI]; simp [keq, hk2]
              refine t_drawn rfl (by decide) ?_
              repeat (first
                | (refine d_skG rfl (by decide) rfl ?_)
                | (refine d_skU rfl (by decide) rfl ?_)
                | (first | refine d_rdG rfl (by decide) rfl (fun K hK => ?_) | refine d_rd (fun K hK => ?_)
                   simp only [Xa, Xb, Xc, Xd, Xe, Xf, Xg, Xh, Xi, Xj, Xk, Xl, Xm, Xn, Xo, Xp, Xq, Xr, Xs, Xt, Xu, Xv, Xw, Xx, Xy, Xz, XA, XB, XD, XE, XF, XG, XH, XI, ev, XJ, upd, args1, args2, args3, args4, XK, XL, XM, extL, XN, XO, XP, XQ, XR, XT, XU, XV, XW, XX, XY, XZ, X0, X1, X2, X3, Addr.add, ↓reduceIte, Nat.reduceLT, Nat.reduceEqDiff, Nat.zero_add, Nat.reduceAdd, Option.map_some, X4, List.getElem_toArray, List.getElem_cons_zero, List.getElem_cons_succ, hd9, h14, hw9, iA, fA, gA, am0, am1, l0, l1, hk1, hk2]
                   refine hK _ ?_
                   clear hK K))
              refine d_done ?_
              intro O6 w6 r6
              refine t_false rfl ?_
              refine t_skip ?_
              exact addIt O6 w6 _ hto r6 h1 h8 h9 h10 h14 rfl
            | true =>
              have hto : takeOut out q.e = out := by unfold takeOut; rw [hlI]; simp [keq, hk1, hk2]
              refine t_drawn rfl (by decide) ?_
              repeat (first
                | (refine d_skG rfl (by decide) rfl ?_)
                | (refine d_skU rfl (by decide) rfl ?_)
                | (first | refine d_rdG rfl (by decide) rfl (fun K hK => ?_) | refine d_rd (fun K hK => ?_)
                   simp only [Xa, Xb, Xc, Xd, Xe, Xf, Xg, Xh, Xi, Xj, Xk, Xl, Xm, Xn, Xo, Xp, Xq, Xr, Xs, Xt, Xu, Xv, Xw, Xx, Xy, Xz, XA, XB, XD, XE, XF, XG, XH, XI, ev, XJ, upd, args1, args2, args3, args4, XK, XL, XM, extL, XN, XO, XP, XQ, XR, XT, XU, XV, XW, XX, XY, XZ, X0, X1, X2, X3, Addr.add, ↓reduceIte, Nat.reduceLT, Nat.reduceEqDiff, Nat.zero_add, Nat.reduceAdd, Option.map_some, X4, List.getElem_toArray, List.getElem_cons_zero, List.getElem_cons_succ, hd9, h14, hw9, iA, fA, gA, am0, am1, l0, l1, hk1, hk2]
                   refine hK _ ?_
                   clear hK K))
              refine d_done ?_
              intro O6 w6 r6
              refine t_true rfl ?_
              refine t_exit rfl ?_
              exact skipIt O6 w6 _ hto r6 h1 h8 h9 h10 h14
    · have hd0 : decide ((out.length : Int) < n) = false := decide_eq_false hn
      have hres' : out = res := by
        rw [mrg, if_neg hn] at hres
        exact hres
      repeat (first
        | (refine t_skG rfl (by decide) rfl ?_)
        | (refine t_skU rfl (by decide) rfl ?_)
        | (first | refine t_rdG (by decide) rfl (by decide) rfl (fun K hK => ?_) | refine t_rd (by decide) (fun K hK => ?_)
           simp only [Xa, Xb, Xc, Xd, Xe, Xf, Xg, Xh, Xi, Xj, Xk, Xl, Xm, Xn, Xo, Xp, Xq, Xr, Xs, Xt, Xu, Xv, Xw, Xx, Xy, Xz, XA, XB, XD, XE, XF, XG, XH, XI, ev, XJ, upd, args1, args2, args3, args4, XK, XL, XM, extL, XN, XO, XP, XQ, XR, XT, XU, XV, XW, XX, XY, XZ, X0, X1, X2, X3, Addr.add, ↓reduceIte, Nat.reduceLT, Nat.reduceEqDiff, Nat.zero_add, Nat.reduceAdd, Option.map_some, X4, List.getElem_toArray, List.getElem_cons_zero, List.getElem_cons_succ, h14, h1, hl, hd0]
           refine hK _ ?_
           clear hK K))
      refine t_done ?_
      refine t_false rfl ?_
      refine t_exit rfl ?_
      exact out0 hres' O w _ (Rel.refl _ _ _) h8 h9 h14
end Go.Proofs.Ytdajdembeacefaa.M

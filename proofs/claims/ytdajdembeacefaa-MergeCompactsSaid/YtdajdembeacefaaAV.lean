/-
  'awake', the fixed fact; main's last return; the start of a run.
-/
import Derived.Test.YtdajdembeacefaaAU
set_option linter.unusedSimpArgs false
set_option linter.unusedVariables false
namespace Go.Proofs.Ytdajdembeacefaa.M
open Go.Conc

section
variable {main : Bool} {W : Goroutine → Prop} {x : Th} {St : Gh → Goroutine → World → Prop} {O : Gh} {w : World} {b : Frame} {n : Nat} {f f' : Nat → Value} {ds : List Deferred} {k : List Item} {cs : List Frame} {all os : List Oper} {i : Nat} {d : Nat} {op : Op} {t : TypeId} {p : String} {e : Array Edge}
/-- A guarded call of a function that has a body, wanted. -/
theorem c_callG (hW : Ctl main W) {fn : FuncId} {F : Func} {args : Array Operand} {ats : Array TypeId} {gd : Option (Nat × Bool)} (vals : Array Value) (hk : b.kind ≠ .early)
    (hw : Region.wanted ⟨some d, .call { callee := .value (.func fn), args, argTypes := ats }, t, p, e, gd⟩ (yielded all.toArray (mkT n f)) = true)
    (hf : P.funcs[fn]? = some F) (hname : (F.name == "runtime.NumGoroutine") = false) (hb : F.body.isNone = false) (has : args.map (ev n f) = vals)
    (h : ∀ c, (∀ (W' : Goroutine → Prop) (v : Value), InC W' b n (upd f d v) ds all k cs (i + 1) os → W' (G (c.finish v) cs)) → W (G (Frame.enter P fn vals .normal) (c :: cs))) :
    InC W b n f ds all k cs i (⟨some d, .call { callee := .value (.func fn), args, argTypes := ats }, t, p, e, gd⟩ :: os) := by
  subst has
  intro ee
  obtain ⟨h1, h2⟩ := drop_get ee
  rw [List.length_cons, List.range'_succ]
  refine hW _ _ rfl (fun w => ?_) (h (Fr b n f ds (.inRegion all.toArray (i :: List.range' (i + 1) os.length) :: k)) fun W' v hv => ?_)
  · have := stepG_enter (P := P) (main := main) (b := b) (a := ⟨mkT n f, ds⟩) (k := k) (cs := cs) (w := w) (rest := List.range' (i + 1) os.length) h1 hw hk (run_call_body rfl hf hname hb)
    have hl : listed P b.fn ⟨mkT n f, ds⟩ ⟨some d, .call { callee := .value (.func fn), args, argTypes := ats }, t, p, e, gd⟩ w = #[] := by unfold listed; rw [events_call_body rfl hf hname hb]; exact seen_none P _
    rw [hl, eval_mkT] at this
    exact this
  · unfold Fr
    rw [Frame.finish_at, put_mkT, h1]
    exact hv h2
theorem t_callG {fn : FuncId} {F : Func} {args : Array Operand} {ats : Array TypeId} {j d' : Nat} {z : Bool} (vals : Array Value) (hk : b.kind ≠ .early)
    (hj : (all.toArray[j]?).bind (·.dst) = some d') (hd : d' < n) (hv : f d' = .bool z)
    (hf : P.funcs[fn]? = some F) (hname : (F.name == "runtime.NumGoroutine") = false) (hb : F.body.isNone = false) (has : args.map (ev n f) = vals)
    (h : ∀ c, (∀ v O' w', InReg P x St O' w' b n (upd f d v) ds all k cs (i + 1) os → Tree P x St O' (G (c.finish v) cs) w') → Tree P x St O (G (Frame.enter P fn vals .normal) (c :: cs)) w) :
    InReg P x St O w b n f ds all k cs i (⟨some d, .call { callee := .value (.func fn), args, argTypes := ats }, t, p, e, some (j, z)⟩ :: os) :=
  c_callG (ctl_tree x St O w) vals hk (by rw [wanted_of rfl hj hd hv]; cases z <;> rfl) hf hname hb has fun c hgo => h c fun v O' w' hv => hgo (fun g => Tree P x St O' g w') v hv
/-- A guarded operation that only reads, its value known. -/
theorem t_valG {j d' : Nat} {z : Bool} {v : Value} (hk : b.kind ≠ .early) (hj : (all.toArray[j]?).bind (·.dst) = some d') (hd : d' < n) (hz : f d' = .bool z)
    (hv : runL P (ldOf x O w) (execOp (ev n f) ⟨some d, op, t, p, e, some (j, z)⟩) = some (.value v)) (h : InReg P x St O w b n (upd f d v) ds all k cs (i + 1) os) :
    InReg P x St O w b n f ds all k cs i (⟨some d, op, t, p, e, some (j, z)⟩ :: os) := t_rdG hk hj hd hz fun K hK => by rw [hv]; exact hK v h
end
theorem bin_eql50 {L : Addr → Option Value} (x y : Operand) (a b : Pr) : binL L .eql 50 x y a.v b.v = some (.value (.bool (prEq a b))) := by
  have := runL_eq50 (L := L) 9998 a b
  simp [binL, eqGuard, binOp, runL_bind, runL_pure, program, runL, guard50, Op.equal, Op.maxDepth, Pr.v]
  simp [Pr.v] at this
  rw [runL_map, this]; rfl
theorem SlP.key {L : Addr → Option Value} {v : Value} {l : List Pr} (h : SlP L v l) {i : Nat} {e : Pr} {A : Addr} (hi : l[i]? = some e) (ha : idxL 2 v (.int .i64 i) = some (.value (.pointer (some A)))) : L A = some (.string e.key) := by
  have hlt := (List.getElem?_eq_some_iff.1 hi).1
  rcases h with ⟨h, _⟩ | ⟨b, o, c, rfl, hc, h⟩
  · have : l = [] := by simpa using h
    subst this; simp at hi
  · obtain ⟨_, h⟩ := h i e.cells (by rw [List.getElem?_map, hi]; rfl)
    have h0 := h 0 (by omega)
    rw [List.length_map, idxL_some 2 _ _ _ i _ hlt, add_none] at ha
    simp only [Option.some.injEq, Next.value.injEq, Value.pointer.injEq] at ha
    subst ha; exact h0

section
variable {L : Addr → Option Value} {ρ : Operand → Value} {d : Option Nat} {t : TypeId} {p : String} {e : Array Edge} {g : Option (Nat × Bool)}
theorem x_build37_2 (a : ByteArray) (s : Int) (h0 : ρ (.const (.string a)) = .string a) (h1 : ρ (.const (.int .i64 s)) = .int .i64 s) : runL P L (execOp ρ ⟨d, .build 37 #[(0, .const (.string a)), (1, .const (.int .i64 s))], t, p, e, g⟩) = some (.value (Ent.v ⟨a, s, false, ⟨#[]⟩⟩)) := by
  simp only [execOp, List.map_toArray, List.map_cons, List.map_nil, Instr.build, h0, h1]
  have h9 : runL P L (sizeOf 9) = some 1 := by rw [runL_sizeOf]; rfl
  have h3 : runL P L (sizeOf 3) = some 1 := by rw [runL_sizeOf]; rfl
  have h4 : runL P L (sizeOf 4) = some 1 := by rw [runL_sizeOf]; rfl
  simp only [runL_bind, zero37, Option.bind_some, runL_underlying, Try.underlying37]
  simp [runL_bind, runL_map, runL_pure, h9, h3, h4, Instr.fill, Value.cells]
  rfl
theorem x_build37_3 (a : ByteArray) (s : Int) (v : ByteArray) (h0 : ρ (.const (.string a)) = .string a) (h1 : ρ (.const (.int .i64 s)) = .int .i64 s) (h2 : ρ (.const (.string v)) = .string v) : runL P L (execOp ρ ⟨d, .build 37 #[(0, .const (.string a)), (1, .const (.int .i64 s)), (3, .const (.string v))], t, p, e, g⟩) = some (.value (Ent.v ⟨a, s, false, v⟩)) := by
  simp only [execOp, List.map_toArray, List.map_cons, List.map_nil, Instr.build, h0, h1, h2]
  have h9 : runL P L (sizeOf 9) = some 1 := by rw [runL_sizeOf]; rfl
  have h3 : runL P L (sizeOf 3) = some 1 := by rw [runL_sizeOf]; rfl
  have h4 : runL P L (sizeOf 4) = some 1 := by rw [runL_sizeOf]; rfl
  simp only [runL_bind, zero37, Option.bind_some, runL_underlying, Try.underlying37]
  simp [runL_bind, runL_map, runL_pure, h9, h3, h4, Instr.fill, Value.cells]
  rfl
end
/-- A slice of two new elements. -/
theorem New.two {x : Th} {O O1 : Gh} {w w1 : World} {m sz : Nat} {a b : Array Value} {t : TypeId} (h : New x O w O1 w1 m (.cells (a ++ b) t)) (ha : a.size = sz) (hb : b.size = sz) : Sl sz (ldOf x O1 w1) (.slice (some ⟨m, 0, none⟩) 2 2) [a, b] := .inr ⟨m, 0, 2, rfl, Nat.le_refl _, fun i q hi => by
  rcases i with _ | _ | i
  · simp at hi; subst hi
    refine ⟨ha, fun k hk => ?_⟩
    have hk4 : a[k]? = some (a[k]'(by omega)) := Array.getElem?_eq_getElem (by omega)
    rw [Nat.zero_mul, Nat.zero_add, hk4]
    exact h.cell k _ (by rw [Array.getElem?_append_left (by omega)]; exact hk4)
  · simp at hi; subst hi
    refine ⟨hb, fun k hk => ?_⟩
    have hk4 : b[k]? = some (b[k]'(by omega)) := Array.getElem?_eq_getElem (by omega)
    rw [hk4]
    exact h.cell _ _ (by rw [Array.getElem?_append_right (by omega)]; rw [show 0 + (0 + 1) * sz + k - a.size = k by omega]; exact hk4)
  · simp at hi⟩
theorem fill_two {cells : Array Value} {sz : Nat} {u v : Value} (hu : u.cells.size = sz) (hv : v.cells.size = sz) (hs : cells.size = 2 * sz) : Instr.fill (fun i => some (i * sz, sz)) cells [(0, u), (1, v)] = some (u.cells ++ v.cells) := by
  rw [fill_one (off := 0) (sz := sz) (by simp) hu (by omega)]
  rw [fill_one (off := sz) (sz := sz) (by simp) hv (by simp; omega), Instr.fill]
  congr 1
  apply Array.ext'
  have h1 : u.cells.toList.length = sz := by simpa using hu
  have h2 : (cells.toList.drop sz).drop sz = [] := List.drop_eq_nil_iff.2 (by simp; omega)
  simp [List.take_append, List.drop_append, hu, h2]

/-! ### the fixed fact -/
def ka : ByteArray := ⟨#[97]⟩
def kb : ByteArray := ⟨#[98]⟩
def kc : ByteArray := ⟨#[99]⟩
def kx : ByteArray := ⟨#[120]⟩
def k0 : ByteArray := ⟨#[]⟩
def awA : List Ent := [⟨ka, 3, false, k0⟩, ⟨kc, 1, false, k0⟩]
def awB : List Ent := [⟨ka, 2, false, kx⟩, ⟨kb, 5, false, k0⟩]
def awL : List Ent := [⟨ka, 3, false, k0⟩, ⟨ka, 2, false, kx⟩, ⟨kb, 5, false, k0⟩, ⟨kc, 1, false, k0⟩]
theorem aw_first : firstL [awA, awB] maxInt = awL := by kernel_rfl
theorem aw_good : goodL [awA, awB] = true := by kernel_rfl
theorem aw_ord : ordL awL = true := by kernel_rfl
theorem aw_vis : visL awL 2 = [⟨ka, kx⟩, ⟨kc, k0⟩] := by kernel_rfl
theorem aw_eq1 : prEq ⟨ka, kx⟩ ⟨ka, kx⟩ = true := by kernel_rfl
theorem aw_eq2 : ((ByteArray.mk #[99]).toList == (ByteArray.mk #[99]).toList) = true := by kernel_rfl
theorem nm10 : ((Try.f10).name == "runtime.NumGoroutine") = false := by kernel_rfl
theorem nm17 : ((Try.f17).name == "runtime.NumGoroutine") = false := by kernel_rfl

set_option maxHeartbeats 16000000 in
theorem awake_M {Post : Value → World → Prop} (O : Gh) (w : World) (c : Frame) (cs : List Frame) (hd : O.deaf = 0)
    (h : ∀ O' w', Keep O w O' w' → Tree P x0 (Will P Post) O' (G (c.finish (.bool true)) cs) w') :
    Tree P x0 (Will P Post) O (G (Frame.enter P 8 #[] .normal) (c :: cs)) w := by
  rw [enter0 Try.func8 rfl Try.ntmps8]
  refine t_seq ?_
  refine t_region ?_
  repeat (first
    | (refine t_skG rfl (by decide) rfl ?_)
    | (refine t_skU rfl (by decide) rfl ?_)
    | (first | refine t_rdG (by decide) rfl (by decide) rfl (fun K hK => ?_) | refine t_rd (by decide) (fun K hK => ?_)
       simp only [Xa, Xb, Xc, Xd, Xe, Xf, Xg, Xh, Xi, Xj, Xk, Xl, Xm, Xn, Xo, Xp, Xq, Xr, Xs, Xt, Xu, Xv, Xw, Xx, Xy, Xz, XA, XB, XD, XE, XF, XG, XH, XI, ev, XJ, upd, args1, args2, args3, args4, XK, XL, XM, extL, XN, XO, XP, XQ, XR, XT, XU, XV, XW, XX, XY, XZ, X0, X1, X2, X3, Addr.add, ↓reduceIte, Nat.reduceLT, Nat.reduceEqDiff, Nat.zero_add, Nat.reduceAdd, Option.map_some, X4, List.getElem_toArray, List.getElem_cons_zero, List.getElem_cons_succ]
       refine hK _ ?_
       clear hK K))
  refine t_done ?_
  refine t_seq ?_
  refine t_region ?_
  refine t_val (by decide) (x_build37_2 _ _ rfl rfl) ?_
  refine t_val (by decide) (x_build37_2 _ _ rfl rfl) ?_
  refine t_buildSlice (sz := 4) (cells := (⟨ka, 3, false, k0⟩ : Ent).cells ++ (⟨kc, 1, false, k0⟩ : Ent).cells) (pv := #[(0, (⟨ka, 3, false, k0⟩ : Ent).v), (1, (⟨kc, 1, false, k0⟩ : Ent).v)]) Try.underlying25 rfl (by decide) zero37 (by decide) (by simp only [List.map_toArray, List.map_cons, List.map_nil, Xa, Xb, Xc, Xd, Xe, Xf, Xg, Xh, Xi, Xj, Xk, Xl, Xm, Xn, Xo, Xp, Xq, Xr, Xs, Xt, Xu, Xv, Xw, Xx, Xy, Xz, XA, XB, XD, XE, XF, XG, XH, XI, ev, XJ, upd, args1, args2, args3, args4, XK, XL, XM, extL, XN, XO, XP, XQ, XR, XT, XU, XV, XW, XX, XY, XZ, X0, X1, X2, X3, Addr.add, ↓reduceIte, Nat.reduceLT, Nat.reduceEqDiff, Nat.zero_add, Nat.reduceAdd, Option.map_some, X4, List.getElem_toArray, List.getElem_cons_zero, List.getElem_cons_succ]; rfl) (fun c0 h0 => fill_two rfl rfl h0) ?_
  intro m1 O1 w1 h1
  refine t_val (by decide) (x_build37_3 _ _ _ rfl rfl rfl) ?_
  refine t_val (by decide) (x_build37_2 _ _ rfl rfl) ?_
  refine t_buildSlice (sz := 4) (cells := (⟨ka, 2, false, kx⟩ : Ent).cells ++ (⟨kb, 5, false, k0⟩ : Ent).cells) (pv := #[(0, (⟨ka, 2, false, kx⟩ : Ent).v), (1, (⟨kb, 5, false, k0⟩ : Ent).v)]) Try.underlying25 rfl (by decide) zero37 (by decide) (by simp only [List.map_toArray, List.map_cons, List.map_nil, Xa, Xb, Xc, Xd, Xe, Xf, Xg, Xh, Xi, Xj, Xk, Xl, Xm, Xn, Xo, Xp, Xq, Xr, Xs, Xt, Xu, Xv, Xw, Xx, Xy, Xz, XA, XB, XD, XE, XF, XG, XH, XI, ev, XJ, upd, args1, args2, args3, args4, XK, XL, XM, extL, XN, XO, XP, XQ, XR, XT, XU, XV, XW, XX, XY, XZ, X0, X1, X2, X3, Addr.add, ↓reduceIte, Nat.reduceLT, Nat.reduceEqDiff, Nat.zero_add, Nat.reduceAdd, Option.map_some, X4, List.getElem_toArray, List.getElem_cons_zero, List.getElem_cons_succ]; rfl) (fun c0 h0 => fill_two rfl rfl h0) ?_
  intro m2 O2 w2 h2
  repeat (first
    | (refine t_skG rfl (by decide) rfl ?_)
    | (refine t_skU rfl (by decide) rfl ?_)
    | (first | refine t_rdG (by decide) rfl (by decide) rfl (fun K hK => ?_) | refine t_rd (by decide) (fun K hK => ?_)
       simp only [Xa, Xb, Xc, Xd, Xe, Xf, Xg, Xh, Xi, Xj, Xk, Xl, Xm, Xn, Xo, Xp, Xq, Xr, Xs, Xt, Xu, Xv, Xw, Xx, Xy, Xz, XA, XB, XD, XE, XF, XG, XH, XI, ev, XJ, upd, args1, args2, args3, args4, XK, XL, XM, extL, XN, XO, XP, XQ, XR, XT, XU, XV, XW, XX, XY, XZ, X0, X1, X2, X3, Addr.add, ↓reduceIte, Nat.reduceLT, Nat.reduceEqDiff, Nat.zero_add, Nat.reduceAdd, Option.map_some, X4, List.getElem_toArray, List.getElem_cons_zero, List.getElem_cons_succ]
       refine hK _ ?_
       clear hK K))
  refine t_done ?_
  have s1 : SlE (ldOf x0 O2 w2) (.slice (some ⟨m1, 0, none⟩) 2 2) awA := Sl.rely (h1.two (sz := 4) rfl rfl) h2.rel
  have s2 : SlE (ldOf x0 O2 w2) (.slice (some ⟨m2, 0, none⟩) 2 2) awB := h2.two (sz := 4) rfl rfl
  refine t_seq ?_
  refine t_region ?_
  iterate 2 (first
    | (refine t_skG rfl (by decide) rfl ?_)
    | (refine t_skU rfl (by decide) rfl ?_)
    | (first | refine t_rdG (by decide) rfl (by decide) rfl (fun K hK => ?_) | refine t_rd (by decide) (fun K hK => ?_)
       simp only [Xa, Xb, Xc, Xd, Xe, Xf, Xg, Xh, Xi, Xj, Xk, Xl, Xm, Xn, Xo, Xp, Xq, Xr, Xs, Xt, Xu, Xv, Xw, Xx, Xy, Xz, XA, XB, XD, XE, XF, XG, XH, XI, ev, XJ, upd, args1, args2, args3, args4, XK, XL, XM, extL, XN, XO, XP, XQ, XR, XT, XU, XV, XW, XX, XY, XZ, X0, X1, X2, X3, Addr.add, ↓reduceIte, Nat.reduceLT, Nat.reduceEqDiff, Nat.zero_add, Nat.reduceAdd, Option.map_some, X4, List.getElem_toArray, List.getElem_cons_zero, List.getElem_cons_succ]
       refine hK _ ?_
       clear hK K))
  refine t_buildSlice (sz := 1) (cells := (#[Value.slice (some ⟨m1, 0, none⟩) 2 2] ++ #[Value.slice (some ⟨m2, 0, none⟩) 2 2] : Array Value)) (pv := #[(0, .slice (some ⟨m1, 0, none⟩) 2 2), (1, .slice (some ⟨m2, 0, none⟩) 2 2)]) Try.underlying22 rfl (by decide) zero25 (by decide) (by simp only [List.map_toArray, List.map_cons, List.map_nil, Xa, Xb, Xc, Xd, Xe, Xf, Xg, Xh, Xi, Xj, Xk, Xl, Xm, Xn, Xo, Xp, Xq, Xr, Xs, Xt, Xu, Xv, Xw, Xx, Xy, Xz, XA, XB, XD, XE, XF, XG, XH, XI, ev, XJ, upd, args1, args2, args3, args4, XK, XL, XM, extL, XN, XO, XP, XQ, XR, XT, XU, XV, XW, XX, XY, XZ, X0, X1, X2, X3, Addr.add, ↓reduceIte, Nat.reduceLT, Nat.reduceEqDiff, Nat.zero_add, Nat.reduceAdd, Option.map_some, X4, List.getElem_toArray, List.getElem_cons_zero, List.getElem_cons_succ]) (fun c0 h0 => fill_two (sz := 1) (u := .slice (some ⟨m1, 0, none⟩) 2 2) (v := .slice (some ⟨m2, 0, none⟩) 2 2) rfl rfl h0) ?_
  intro m3 O3 w3 h3
  have s3 : Sl2 (ldOf x0 O3 w3) (.slice (some ⟨m3, 0, none⟩) 2 2) [awA, awB] := ⟨[.slice (some ⟨m1, 0, none⟩) 2 2, .slice (some ⟨m2, 0, none⟩) 2 2], h3.two (sz := 1) rfl rfl, rfl, fun i u l hu hl => by
    rcases i with _ | _ | i
    · simp at hu hl; subst hu hl; exact s1.rely h3.rel
    · simp at hu hl; subst hu hl; exact s2.rely h3.rel
    · simp at hu⟩
  have r3 := (h1.rel.trans h2.rel).trans h3.rel
  refine t_callA #[.slice (some ⟨m3, 0, none⟩) 2 2] (by decide) Try.func10 nm10 rfl (by simp only [List.map_toArray, List.map_cons, List.map_nil, Xa, Xb, Xc, Xd, Xe, Xf, Xg, Xh, Xi, Xj, Xk, Xl, Xm, Xn, Xo, Xp, Xq, Xr, Xs, Xt, Xu, Xv, Xw, Xx, Xy, Xz, XA, XB, XD, XE, XF, XG, XH, XI, ev, XJ, upd, args1, args2, args3, args4, XK, XL, XM, extL, XN, XO, XP, XQ, XR, XT, XU, XV, XW, XX, XY, XZ, X0, X1, X2, X3, Addr.add, ↓reduceIte, Nat.reduceLT, Nat.reduceEqDiff, Nat.zero_add, Nat.reduceAdd, Option.map_some, X4, List.getElem_toArray, List.getElem_cons_zero, List.getElem_cons_succ]) ?_
  intro c2 hret
  refine Merge_M [awA, awB] _ O3 w3 c2 (c :: cs) s3 (r3.deaf.trans hd) (by decide) (by decide) (by decide) (fun _ O4 w4 s m hk hb hm hs => ?_) (fun hg => by rw [aw_good] at hg; cases hg)
  rw [aw_first] at hb
  have k4 := r3.keep.trans hk
  refine hret _ O4 w4 ?_
  clear hret
  have e0 : extL 0 (.tuple #[s, .int .i64 0]) = some (.value s) := rfl
  have e1 : extL 1 (.tuple #[s, .int .i64 0]) = some (.value (.int .i64 0)) := rfl
  repeat (first
    | (refine t_skG rfl (by decide) rfl ?_)
    | (refine t_skU rfl (by decide) rfl ?_)
    | (first | refine t_rdG (by decide) rfl (by decide) rfl (fun K hK => ?_) | refine t_rd (by decide) (fun K hK => ?_)
       simp only [Xa, Xb, Xc, Xd, Xe, Xf, Xg, Xh, Xi, Xj, Xk, Xl, Xm, Xn, Xo, Xp, Xq, Xr, Xs, Xt, Xu, Xv, Xw, Xx, Xy, Xz, XA, XB, XD, XE, XF, XG, XH, XI, ev, XJ, upd, args1, args2, args3, args4, XK, XL, XM, extL, XN, XO, XP, XQ, XR, XT, XU, XV, XW, XX, XY, XZ, X0, X1, X2, X3, Addr.add, ↓reduceIte, Nat.reduceLT, Nat.reduceEqDiff, Nat.zero_add, Nat.reduceAdd, Option.map_some, X4, List.getElem_toArray, List.getElem_cons_zero, List.getElem_cons_succ, e0, e1]
       refine hK _ ?_
       clear hK K))
  refine t_done ?_
  refine t_seq ?_
  refine t_region ?_
  iterate 1 (first
    | (refine t_skG rfl (by decide) rfl ?_)
    | (refine t_skU rfl (by decide) rfl ?_)
    | (first | refine t_rdG (by decide) rfl (by decide) rfl (fun K hK => ?_) | refine t_rd (by decide) (fun K hK => ?_)
       simp only [Xa, Xb, Xc, Xd, Xe, Xf, Xg, Xh, Xi, Xj, Xk, Xl, Xm, Xn, Xo, Xp, Xq, Xr, Xs, Xt, Xu, Xv, Xw, Xx, Xy, Xz, XA, XB, XD, XE, XF, XG, XH, XI, ev, XJ, upd, args1, args2, args3, args4, XK, XL, XM, extL, XN, XO, XP, XQ, XR, XT, XU, XV, XW, XX, XY, XZ, X0, X1, X2, X3, Addr.add, ↓reduceIte, Nat.reduceLT, Nat.reduceEqDiff, Nat.zero_add, Nat.reduceAdd, Option.map_some, X4, List.getElem_toArray, List.getElem_cons_zero, List.getElem_cons_succ]
       refine hK _ ?_
       clear hK K))
  have hs4 : SlE (ldOf x0 O4 w4) s awL := hb.sl
  refine t_callA #[s, .int .i64 2] (by decide) Try.func17 nm17 rfl (by simp only [List.map_toArray, List.map_cons, List.map_nil, Xa, Xb, Xc, Xd, Xe, Xf, Xg, Xh, Xi, Xj, Xk, Xl, Xm, Xn, Xo, Xp, Xq, Xr, Xs, Xt, Xu, Xv, Xw, Xx, Xy, Xz, XA, XB, XD, XE, XF, XG, XH, XI, ev, XJ, upd, args1, args2, args3, args4, XK, XL, XM, extL, XN, XO, XP, XQ, XR, XT, XU, XV, XW, XX, XY, XZ, X0, X1, X2, X3, Addr.add, ↓reduceIte, Nat.reduceLT, Nat.reduceEqDiff, Nat.zero_add, Nat.reduceAdd, Option.map_some, X4, List.getElem_toArray, List.getElem_cons_zero, List.getElem_cons_succ]) ?_
  intro c3 hret
  refine Visible_M awL s 2 O4 w4 c3 (c :: cs) hs4 (by decide) (fun _ O5 w5 m5 v5 r5 hb5 => ?_) (fun hg => by rw [aw_ord] at hg; cases hg)
  rw [aw_vis] at hb5
  refine hret _ O5 w5 ?_
  clear hret
  have k5 := k4.trans r5.keep
  have e2 : extL 0 (.tuple #[v5, .int .i64 0]) = some (.value v5) := rfl
  have e3 : extL 1 (.tuple #[v5, .int .i64 0]) = some (.value (.int .i64 0)) := rfl
  repeat (first
    | (refine t_skG rfl (by decide) rfl ?_)
    | (refine t_skU rfl (by decide) rfl ?_)
    | (first | refine t_rdG (by decide) rfl (by decide) rfl (fun K hK => ?_) | refine t_rd (by decide) (fun K hK => ?_)
       simp only [Xa, Xb, Xc, Xd, Xe, Xf, Xg, Xh, Xi, Xj, Xk, Xl, Xm, Xn, Xo, Xp, Xq, Xr, Xs, Xt, Xu, Xv, Xw, Xx, Xy, Xz, XA, XB, XD, XE, XF, XG, XH, XI, ev, XJ, upd, args1, args2, args3, args4, XK, XL, XM, extL, XN, XO, XP, XQ, XR, XT, XU, XV, XW, XX, XY, XZ, X0, X1, X2, X3, Addr.add, ↓reduceIte, Nat.reduceLT, Nat.reduceEqDiff, Nat.zero_add, Nat.reduceAdd, Option.map_some, X4, List.getElem_toArray, List.getElem_cons_zero, List.getElem_cons_succ, e2, e3]
       refine hK _ ?_
       clear hK K))
  refine t_done ?_
  have hs5 := hs4.rely r5
  have hl5 := hs5.len
  have hv5 : SlP (ldOf x0 O5 w5) v5 [⟨ka, kx⟩, ⟨kc, k0⟩] := hb5.sl
  have hlv := hv5.len
  obtain ⟨A, hA⟩ := hs5.at (show awL[1]? = some ⟨ka, 2, false, kx⟩ from rfl)
  obtain ⟨B, hB⟩ := hv5.at (show ([⟨ka, kx⟩, ⟨kc, k0⟩] : List Pr)[0]? = some ⟨ka, kx⟩ from rfl)
  obtain ⟨C, hC⟩ := hv5.at (show ([⟨ka, kx⟩, ⟨kc, k0⟩] : List Pr)[1]? = some ⟨kc, k0⟩ from rfl)
  have iA : idxL 4 s (.int .i64 1) = some (.value (.pointer (some A))) := hA.idx
  have gA : ldOf x0 O5 w5 ⟨A.block, A.off + 1, none⟩ = some (.int .i64 2) := hA.f1
  have iB : idxL 2 v5 (.int .i64 0) = some (.value (.pointer (some B))) := hB.idx
  have wB : loadN (ldOf x0 O5 w5) 2 (.pointer (some B)) = some (.value (Pr.v ⟨ka, kx⟩)) := hB.whole
  have iC : idxL 2 v5 (.int .i64 1) = some (.value (.pointer (some C))) := hC.idx
  have kC : ldOf x0 O5 w5 C = some (.string ⟨#[99]⟩) := hv5.key (i := 1) (show ([⟨ka, kx⟩, ⟨kc, k0⟩] : List Pr)[1]? = some ⟨kc, k0⟩ from rfl) hC.idx
  have hl5' : lenL s = some (.value (.int .i64 4)) := hl5
  have hlv' : lenL v5 = some (.value (.int .i64 2)) := hlv
  have q00 : ((0 : Int) == 0) = true := by decide
  have q44 : ((4 : Int) == 4) = true := by decide
  have q22 : ((2 : Int) == 2) = true := by decide
  refine t_seq ?_
  refine t_region ?_
  iterate 27 (first
    | (refine t_skG rfl (by decide) rfl ?_)
    | (refine t_skU rfl (by decide) rfl ?_)
    | (first | refine t_rdG (by decide) rfl (by decide) rfl (fun K hK => ?_) | refine t_rd (by decide) (fun K hK => ?_)
       simp only [Xa, Xb, Xc, Xd, Xe, Xf, Xg, Xh, Xi, Xj, Xk, Xl, Xm, Xn, Xo, Xp, Xq, Xr, Xs, Xt, Xu, Xv, Xw, Xx, Xy, Xz, XA, XB, XD, XE, XF, XG, XH, XI, ev, XJ, upd, args1, args2, args3, args4, XK, XL, XM, extL, XN, XO, XP, XQ, XR, XT, XU, XV, XW, XX, XY, XZ, X0, X1, X2, X3, Addr.add, ↓reduceIte, Nat.reduceLT, Nat.reduceEqDiff, Nat.zero_add, Nat.reduceAdd, Option.map_some, X4, List.getElem_toArray, List.getElem_cons_zero, List.getElem_cons_succ, q00, q44, q22, hl5', hlv', iA, gA, iB, wB]
       refine hK _ ?_
       clear hK K))
  refine t_valG (by decide) rfl (by decide) rfl (x_build50 (a := ka) (b := kx) _ _ rfl rfl) ?_
  repeat (first
    | (refine t_skG rfl (by decide) rfl ?_)
    | (refine t_skU rfl (by decide) rfl ?_)
    | (first | refine t_rdG (by decide) rfl (by decide) rfl (fun K hK => ?_) | refine t_rd (by decide) (fun K hK => ?_)
       simp only [Xa, Xb, Xc, Xd, Xe, Xf, Xg, Xh, Xi, Xj, Xk, Xl, Xm, Xn, Xo, Xp, Xq, Xr, Xs, Xt, Xu, Xv, Xw, Xx, Xy, Xz, XA, XB, XD, XE, XF, XG, XH, XI, ev, XJ, upd, args1, args2, args3, args4, XK, XL, XM, extL, XN, XO, XP, XQ, XR, XT, XU, XV, XW, XX, XY, XZ, X0, X1, X2, X3, Addr.add, ↓reduceIte, Nat.reduceLT, Nat.reduceEqDiff, Nat.zero_add, Nat.reduceAdd, Option.map_some, X4, List.getElem_toArray, List.getElem_cons_zero, List.getElem_cons_succ, bin_eql50, aw_eq1, aw_eq2, iC, kC]
       refine hK _ ?_
       clear hK K))
  refine t_done ?_
  refine t_ret ?_
  refine t_leave1 rfl Try.func8 Try.results8 ?_
  exact h O5 w5 k5

/-! ### the end and the start of a run -/
theorem t_final {Post : Value → World → Prop} {O : Gh} {w : World} {b : Frame} {n : Nat} {f : Nat → Value} {todo : List Item} {F : Func} {t : Tmp} (hf : P.funcs[b.fn]? = some F) (hr : F.results = #[.tmp t]) (hin : ¬ 2 = b.fn) (hn : b.kind = .normal) (hd : O.deaf = 0)
    (hpost : ∀ O1 w1, Rel x0 O w O1 w1 → Post (ev n f (.tmp t)) w1) : Tree P x0 (Will P Post) O (G { Fr b n f [] todo with mode := .returning } []) w := by
  refine Tree.stop fun O1 w1 r => will_end ⟨r.deaf.trans hd, rfl, fun w2 r2 => ⟨ev n f (.tmp t), #[], ?_, by simp, by simp, ?_⟩⟩
  · have h1 : ∀ w, (results F (mkT n f)).run P w = .ok (ev n f (.tmp t)) w := fun w => by rw [results_tmp hr _ P w, mkT_getD]; rfl
    have h2 : ∀ w, (results F (mkT n f)).events P w #[] = #[] := fun w => events_results_tmp hr _ _
    simp [G, stepG, unwind, doReturn, Fr, Frame.at, hf, h1, h2, hin, hn, seen_none, GStep.after]
  · exact hpost O1 w2 (r.trans r2)
end Go.Proofs.Ytdajdembeacefaa.M

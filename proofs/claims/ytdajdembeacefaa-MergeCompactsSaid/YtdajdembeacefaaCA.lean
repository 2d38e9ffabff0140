/-
  THE CALCULUS, 9: a return whose results lie in memory; a call of a function value; a map from strings to integers, one's own. No condition.
  GET, the document's: the newest entry of a key that isn't above a number.
  THE DOCUMENT's Visible and Compact, walked.
  THE DOCUMENT's Compact, walked.
  COMPACT's closure; a clone of a slice; the first index that a closure answers yes for.
-/
import Derived.Test.YtdajdembeacefaaBC
set_option linter.unusedSimpArgs false
set_option linter.unusedVariables false
namespace Go.Proofs.Ytdajdembeacefaa.M
open Go.Conc

section
variable {P : Program} {x : Th} {St : Gh → Goroutine → World → Prop} {O : Gh} {w : World} {b : Frame} {n : Nat} {f : Nat → Value} {ds : List Deferred} {k : List Item} {cs : List Frame} {all os : List Oper} {i : Nat} {d : Nat} {t : TypeId} {p : String} {e : Array Edge}
theorem stepG_leaveM {main : Bool} {a : Act} {fn : Func} {todo : List Item} {c : Frame} {v : Value} (hn : b.kind = .normal) (hd : a.defers = []) (hf : P.funcs[b.fn]? = some fn) (hr : (results fn a.tmps).run P w = .ok v w) :
    stepG P main (G { b.at a todo with mode := .returning } (c :: cs)) w = .go (G (c.finish v) cs) w (seen P b.fn ((results fn a.tmps).events P w #[])) := by
  simp [G, stepG, unwind, doReturn, Frame.at, hn, hd, hf, hr, GStep.after]
/-- A return whose results lie in memory that is known. -/
theorem t_leaveM {F : Func} {todo : List Item} {c : Frame} {v : Value} (hn : b.kind = .normal) (hf : P.funcs[b.fn]? = some F) (hr : runL P (ldOf x O w) (results F (mkT n f)) = some v)
    (h : Tree P x St O (G (c.finish v) cs) w) : Tree P x St O (G { Fr b n f [] todo with mode := .returning } (c :: cs)) w := by
  refine .step (fun O' g' w' => g' = G (c.finish v) cs ∧ Rel x O w O' w') rfl (fun O1 w1 r => ?_) (fun _ _ _ ⟨e, r⟩ => e ▸ h.rely r)
  have hr1 := runL_mono (fun _ _ h => ldOf_rely r h) _ _ hr
  obtain ⟨a, w', O', h1, h2, h3, h4⟩ := wpS_sound (P := P) (x := x) (K := fun a O' w' => a = v ∧ O' = O1 ∧ w' = w1) _ _ _ (wpS_runL _ _ hr1 ⟨rfl, rfl, rfl⟩)
  obtain ⟨rfl, rfl, rfl⟩ := h3
  refine ⟨_, _, _, O', stepG_leaveM (a := ⟨mkT n f, []⟩) hn rfl hf h1, h2.with (fun e he => ?_) (fun e he => ?_), rfl, r⟩
  · rcases h4 #[] e (mem_seen he) with h5 | h5
    · simp at h5
    · exact h5.1
  · rcases h4 #[] e (mem_seen he) with h5 | h5
    · simp at h5
    · exact h5.2

theorem run_call_val {ρ : Operand → Value} {o : Oper} {y : Operand} {fn : FuncId} {F : Func} {caps : Array Value} {args : Array Operand} {ats : Array TypeId} (hop : o.op = .call { callee := .value y, args, argTypes := ats }) (hy : ρ y = .func (.func fn) #[] caps)
    (hf : P.funcs[fn]? = some F) (hname : (F.name == "runtime.NumGoroutine") = false) (hb : F.body.isNone = false) : (execOp ρ o).run P w = .ok (.enter fn (args.map ρ ++ caps)) w ∧ ∀ es, (execOp ρ o).events P w es = es := by
  have h1 : ¬ F.name = "runtime.NumGoroutine" := by simpa using hname
  have h2 : ¬ F.body = none := by cases hx : F.body <;> simp_all
  unfold execOp
  constructor
  · simp [hop, resolve, Deferred.ofValue, invoke, callFunc, hf, h1, h2, hy]
  · intro es; simp [hop, resolve, Deferred.ofValue, invoke, callFunc, hf, h1, h2, hy]
/-- A call of a function value. -/
theorem t_callV {fn : FuncId} {F : Func} {y : Operand} {caps : Array Value} {args : Array Operand} {ats : Array TypeId} (vals : Array Value) (hk : b.kind ≠ .early) (hy : ev n f y = .func (.func fn) #[] caps)
    (hf : P.funcs[fn]? = some F) (hname : (F.name == "runtime.NumGoroutine") = false) (hb : F.body.isNone = false) (has : args.map (ev n f) ++ caps = vals)
    (h : ∀ c, (∀ v O' w', InReg P x St O' w' b n (upd f d v) ds all k cs (i + 1) os → Tree P x St O' (G (c.finish v) cs) w') → Tree P x St O (G (Frame.enter P fn vals .normal) (c :: cs)) w) :
    InReg P x St O w b n f ds all k cs i (⟨some d, .call { callee := .value y, args, argTypes := ats }, t, p, e, none⟩ :: os) := by
  subst has
  intro ee
  obtain ⟨h1, h2⟩ := drop_get ee
  rw [List.length_cons, List.range'_succ]
  refine t_ctl rfl (fun w => ?_) (h (Fr b n f ds (.inRegion all.toArray (i :: List.range' (i + 1) os.length) :: k)) fun v O' w' hv => ?_)
  · have hc := run_call_val (P := P) (w := w) (ρ := ev n f) (o := ⟨some d, .call { callee := .value y, args, argTypes := ats }, t, p, e, none⟩) rfl hy hf hname hb
    rw [← eval_mkT n f ds] at hc
    have := stepG_enter (P := P) (main := x.id == 0) (b := b) (a := ⟨mkT n f, ds⟩) (k := k) (cs := cs) (w := w) (rest := List.range' (i + 1) os.length) h1 rfl hk hc.1
    have hl : listed P b.fn ⟨mkT n f, ds⟩ ⟨some d, .call { callee := .value y, args, argTypes := ats }, t, p, e, none⟩ w = #[] := by unfold listed; rw [hc.2]; exact seen_none P _
    rw [hl, eval_mkT] at this
    exact this
  · unfold Fr
    rw [Frame.finish_at, put_mkT, h1]
    exact hv h2
end

/-! ### a map from strings to integers -/
theorem ba_iff (a b : ByteArray) : (a == b) = true ↔ a = b := by
  rw [show (a == b) = (a.data == b.data) from rfl, beq_iff_eq]
  exact ⟨fun h => ByteArray.ext h, fun h => by rw [h]⟩
instance baLaw : LawfulBEq ByteArray where
  eq_of_beq h := (ba_iff _ _).1 h
  rfl := (ba_iff _ _).2 rfl
def findL : List (ByteArray × Int) → ByteArray → Nat → Option (Nat × Int)
  | [], _, _ => none
  | q :: L, k, i => if k == q.1 then some (i, q.2) else findL L k (i + 1)
def setM : List (ByteArray × Int) → ByteArray → Int → List (ByteArray × Int)
  | [], k, n => [(k, n)]
  | q :: L, k, n => if k == q.1 then (k, n) :: L else q :: setM L k n
def getM (L : List (ByteArray × Int)) (k : ByteArray) : Int := match findL L k 0 with
  | some (_, n) => n
  | none => 0
theorem findL_shift : ∀ (L : List (ByteArray × Int)) (k : ByteArray) (i : Nat), (findL L k i).map (·.2) = (findL L k 0).map (·.2)
  | [], k, i => rfl
  | q :: L, k, i => by
    unfold findL
    split
    · rfl
    · rw [findL_shift L k (i + 1), findL_shift L k (0 + 1)]
theorem getM_eq (L : List (ByteArray × Int)) (k : ByteArray) : getM L k = ((findL L k 0).map (·.2)).getD 0 := by
  unfold getM; cases findL L k 0 <;> rfl
theorem getM_nil (k : ByteArray) : getM [] k = 0 := rfl
theorem getM_cons (q : ByteArray × Int) (L : List (ByteArray × Int)) (k : ByteArray) : getM (q :: L) k = if k == q.1 then q.2 else getM L k := by
  rw [getM_eq, getM_eq, findL]
  split
  · rfl
  · rw [findL_shift]
theorem getM_set : ∀ (L : List (ByteArray × Int)) (k k' : ByteArray) (n : Int), getM (setM L k n) k' = if k' = k then n else getM L k'
  | [], k, k', n => by simp [setM, getM_cons, getM_nil]
  | q :: L, k, k', n => by
    unfold setM
    by_cases h : k = q.1
    · subst h
      simp only [BEq.rfl, if_true, getM_cons, beq_iff_eq]
      split <;> simp_all
    · have hb : (k == q.1) = false := by simpa using h
      rw [hb]
      simp only [Bool.false_eq_true, if_false, getM_cons, getM_set L k k' n, beq_iff_eq]
      by_cases h1 : k' = q.1
      · subst h1; simp [Ne.symm h]
      · simp [h1]
theorem setM_none : ∀ {L : List (ByteArray × Int)} {k : ByteArray} {i : Nat} (n : Int), findL L k i = none → setM L k n = L ++ [(k, n)]
  | [], k, i, n, _ => rfl
  | q :: L, k, i, n, h => by
    unfold findL at h
    unfold setM
    split at h
    · cases h
    · rename_i hk; rw [if_neg hk, setM_none n h]; rfl
theorem setM_some : ∀ {L : List (ByteArray × Int)} {k : ByteArray} {i j : Nat} {v : Int} (n : Int), findL L k i = some (j, v) → i ≤ j ∧ L[j - i]? = some (k, v) ∧ setM L k n = L.set (j - i) (k, n)
  | [], k, i, j, v, n, h => by cases h
  | q :: L, k, i, j, v, n, h => by
    unfold findL at h
    unfold setM
    split at h
    · rename_i hk
      cases h
      have : k = q.1 := by simpa using hk
      subst this
      simp [hk]
    · rename_i hk
      obtain ⟨h1, h2, h3⟩ := setM_some n h
      rw [if_neg hk, h3, show j - i = (j - (i + 1)) + 1 by omega]
      exact ⟨by omega, by simpa using h2, rfl⟩
def entM (e : MapEntry) : Value × Value := (e.key, e.val)
def mV (q : ByteArray × Int) : Value × Value := (.string q.1, .int .i64 q.2)
theorem findNow_L : ∀ {es : List MapEntry} {L : List (ByteArray × Int)} (k : ByteArray) (i : Nat), es.map entM = L.map mV → Instr.findNow .string (.string k) es i = some ((findL L k i).map fun q => (q.1, .int .i64 q.2))
  | [], [], k, i, _ => rfl
  | [], _ :: _, k, i, h => by simp at h
  | _ :: _, [], k, i, h => by simp at h
  | e :: es, q :: L, k, i, h => by
    simp only [List.map_cons, List.cons.injEq, entM, mV, Prod.mk.injEq] at h
    obtain ⟨⟨h1, h2⟩, h3⟩ := h
    unfold Instr.findNow findL
    rw [h1]
    simp only [Instr.sameNow]
    cases hb : (k == q.1) with
    | true => simp [h2]
    | false => simp only [Bool.false_eq_true, if_false]; exact findNow_L k (i + 1) h3

/-- A block of one's own that is such a map. -/
def MapIs (x : Th) (O : Gh) (w : World) (m : Nat) (L : List (ByteArray × Int)) : Prop :=
  O.tag m = .mine x.id ∧ ∃ es clock, w.heap[m]? = some (.map es clock) ∧ es.toList.map entM = L.map mV
section
variable {x : Th} {St : Gh → Goroutine → World → Prop} {O : Gh} {w : World} {b : Frame} {n : Nat} {f : Nat → Value} {ds : List Deferred} {k : List Item} {cs : List Frame} {all os : List Oper} {i : Nat} {d : Nat} {t : TypeId} {p : String} {e : Array Edge}
theorem MapIs.rely {O1 : Gh} {w1 : World} {m : Nat} {L : List (ByteArray × Int)} (h : MapIs x O w m L) (r : Rel x O w O1 w1) : MapIs x O1 w1 m L := by
  obtain ⟨h1, es, cl, h2, h3⟩ := h
  have hlt := (Array.getElem?_eq_some_iff.1 h2).1
  exact ⟨(r.tags m hlt (.inl h1)).trans h1, es, cl, (r.block m hlt (.inl h1)).trans h2, h3⟩
theorem MapIs.keep {O1 : Gh} {w1 : World} {m m' : Nat} {L : List (ByteArray × Int)} (h : MapIs x O w m L) (r : Mod O w O1 w1 m') (hm : m ≠ m') : MapIs x O1 w1 m L := by
  obtain ⟨h1, es, cl, h2, h3⟩ := h
  have hlt := (Array.getElem?_eq_some_iff.1 h2).1
  exact ⟨(r.tags m hlt).trans h1, es, cl, (r.block m hlt hm).trans h2, h3⟩
theorem x_makeMap (w : World) (u : TypeId) (ρ : Operand → Value) (d : Option Nat) : (execOp ρ ⟨d, .makeMap u none, t, p, e, none⟩).run P w = .ok (.value (.map (some w.heap.size))) (grow w (.map #[] 0)) := rfl
theorem t_makeMap {u : TypeId} (hk : b.kind ≠ .early)
    (h : ∀ m O1 w1, New x O w O1 w1 m (.map #[] 0) → MapIs x O1 w1 m [] → InReg P x St O1 w1 b n (upd f d (.map (some m))) ds all k cs (i + 1) os) :
    InReg P x St O w b n f ds all k cs i (⟨some d, .makeMap u none, t, p, e, none⟩ :: os) :=
  t_new (o := ⟨some d, .makeMap u none, t, p, e, none⟩) (val := fun m => .map (some m)) hk rfl (fun w => rfl) (fun w => rfl) fun m O1 w1 hn => h m O1 w1 hn ⟨hn.tag, #[], 0, hn.obj, rfl⟩
theorem wpS_findKey {K : Option (Nat × Value) → Gh → World → Prop} {es : Array MapEntry} {L : List (ByteArray × Int)} (kk : ByteArray) (he : es.toList.map entM = L.map mV)
    (hK : K ((findL L kk 0).map fun q => (q.1, .int .i64 q.2)) O w) : wpS P x K (Instr.findKey 9 (.string kk) es.toList) O w := by
  unfold Instr.findKey
  refine wpS_rd (a := .string) (by rw [runL_underlying]; rfl) ?_
  rw [findNow_L kk 0 he]
  exact hK
theorem wpS_checkKey {K : Unit → Gh → World → Prop} (c : Bool) (kk : ByteArray) (hK : K () O w) : wpS P x K (Instr.checkKey c 10000 9 (.string kk)) O w := by
  unfold Instr.checkKey
  refine wpS_rd (a := .string) (by rw [runL_underlying]; rfl) ?_
  exact hK
theorem under71 : P.underlying 71 = some (.map 9 3) := by kernel_rfl
theorem wpS_getMap {α : Type} {K : α → Gh → World → Prop} {m : Nat} {es : Array MapEntry} {cl : Nat} {g : Obj → Sem α} (h1 : O.tag m = .mine x.id) (h2 : w.heap[m]? = some (.map es cl)) (hK : wpS P x K (g (.map es cl)) O w) : wpS P x K (getObj m >>= g) O w := by
  rw [wpS_bind]
  exact ⟨h1, _, h2, trivial, hK⟩
theorem wpS_lookup {K : Value → Gh → World → Prop} {m : Nat} {L : List (ByteArray × Int)} (kk : ByteArray) (hm : MapIs x O w m L) (hK : K (.int .i64 (getM L kk)) O w) :
    wpS P x K (Instr.lookup 71 (.map (some m)) (.string kk) false) O w := by
  obtain ⟨h1, es, cl, h2, h3⟩ := hm
  unfold Instr.lookup
  refine wpS_rd (a := .map 9 3) (by rw [runL_underlying]; exact under71) ?_
  simp only
  refine wpS_getMap h1 h2 ?_
  try simp only
  rw [wpS_bind, wpS_pure, wpS_bind]
  refine wpS_checkKey _ kk ?_
  rw [wpS_bind]
  refine wpS_findKey kk h3 ?_
  rw [getM_eq] at hK
  cases hf : findL L kk 0 with
  | none =>
    rw [hf] at hK
    simp only [Option.map_none]
    refine wpS_rd (a := .int .i64 0) (zero3 _) ?_
    exact hK
  | some q =>
    rw [hf] at hK
    exact hK
theorem t_lookup {y z : Operand} {m : Nat} {L : List (ByteArray × Int)} {kk : ByteArray} (hk : b.kind ≠ .early) (hy : ev n f y = .map (some m)) (hz : ev n f z = .string kk) (hm : MapIs x O w m L)
    (h : ∀ O1 w1, Rel x O w O1 w1 → InReg P x St O1 w1 b n (upd f d (.int .i64 (getM L kk))) ds all k cs (i + 1) os) :
    InReg P x St O w b n f ds all k cs i (⟨some d, .lookup 71 y z false, t, p, e, none⟩ :: os) := by
  refine t_wp hk rfl fun O1 w1 r => ?_
  simp only [execOp, hy, hz]
  rw [wpS_bind]
  exact wpS_lookup kk (hm.rely r) (h O1 w1 r)
theorem Mod.setObj (O : Gh) (w : World) (m : Nat) (o : Obj) : Mod O w O { w with heap := w.heap.setIfInBounds m o } m :=
  ⟨by simp, rfl, rfl, rfl, rfl, fun _ _ => rfl, fun b hb hm => by simp [Array.getElem?_setIfInBounds, Ne.symm hm]⟩
theorem wpS_mapUpdate {K : Unit → Gh → World → Prop} {m : Nat} {L : List (ByteArray × Int)} (kk : ByteArray) (v : Int) (hm : MapIs x O w m L)
    (hK : ∀ w', Mod O w O w' m → MapIs x O w' m (setM L kk v) → K () O w') : wpS P x K (Instr.mapUpdate 71 (.map (some m)) (.string kk) (.int .i64 v)) O w := by
  obtain ⟨h1, es, cl, h2, h3⟩ := hm
  have hlt := (Array.getElem?_eq_some_iff.1 h2).1
  unfold Instr.mapUpdate
  refine wpS_rd (a := .map 9 3) (by rw [runL_underlying]; exact under71) ?_
  simp only
  refine wpS_getMap h1 h2 ?_
  simp only
  rw [wpS_bind]
  refine wpS_checkKey _ kk ?_
  rw [wpS_bind]
  refine wpS_findKey kk h3 ?_
  have put : ∀ (es' : Array MapEntry) (cl' : Nat), es'.toList.map entM = (setM L kk v).map mV → wpS P x K (setObj m (.map es' cl')) O w := fun es' cl' he =>
    ⟨h1, trivial, ⟨_, h2, trivial⟩, hK _ (Mod.setObj O w m _) ⟨h1, es', cl', by simp [Array.getElem?_setIfInBounds, hlt], he⟩⟩
  cases hf : findL L kk 0 with
  | none =>
    simp only [Option.map_none]
    refine put _ _ ?_
    rw [setM_none v hf]
    simp [h3, entM, mV]
  | some q =>
    obtain ⟨j, u⟩ := q
    obtain ⟨_, hj, hset⟩ := setM_some v hf
    rw [Nat.sub_zero] at hj hset
    simp only [Option.map_some]
    have hmap : (es.toList.map entM)[j]? = some (mV (kk, u)) := by rw [h3, List.getElem?_map, hj]; rfl
    rw [List.getElem?_map] at hmap
    obtain ⟨en, hen, hen2⟩ := Option.map_eq_some_iff.1 hmap
    have hkey : en.key = .string kk := congrArg Prod.fst hen2
    have hen' : es[j]? = some en := by rw [← Array.getElem?_toList]; exact hen
    rw [hen']
    simp only [Option.map_some, Option.getD_some, hkey]
    unfold Instr.keyThatStays
    rw [if_pos (by simp [Instr.sameBits])]
    rw [wpS_bind, wpS_pure]
    refine put _ _ ?_
    rw [hset, List.map_set, ← h3]
    apply List.ext_getElem?
    intro q
    simp only [Array.toList_modify, List.getElem?_map, List.getElem?_modify, List.getElem?_set]
    by_cases hq : j = q
    · subst hq
      have hjl := (List.getElem?_eq_some_iff.1 hen).1
      rw [hen]
      simp [entM, mV]
      omega
    · simp [hq]
theorem t_mapUpdate {y z v : Operand} {m : Nat} {L : List (ByteArray × Int)} {kk : ByteArray} {nn : Int} (hk : b.kind ≠ .early) (hy : ev n f y = .map (some m)) (hz : ev n f z = .string kk) (hv : ev n f v = .int .i64 nn) (hm : MapIs x O w m L)
    (h : ∀ O1 w1 w', Rel x O w O1 w1 → Mod O1 w1 O1 w' m → MapIs x O1 w' m (setM L kk nn) → InReg P x St O1 w' b n f ds all k cs (i + 1) os) :
    InReg P x St O w b n f ds all k cs i (⟨none, .mapUpdate 71 y z v, t, p, e, none⟩ :: os) := by
  refine t_wp hk rfl fun O1 w1 r => ?_
  simp only [execOp, hy, hz, hv]
  rw [wpS_bind]
  exact wpS_mapUpdate kk nn (hm.rely r) fun w' h1 h2 => h O1 w1 w' r h1 h2
end
end Go.Proofs.Ytdajdembeacefaa.M
set_option linter.unusedSimpArgs false
set_option linter.unusedVariables false
namespace Go.Proofs.Ytdajdembeacefaa.M
open Go.Conc

/-- A variable of one's own that holds an entry. -/
def VarE (x : Th) (O : Gh) (w : World) (m : Nat) (e : Ent) : Prop := O.tag m = .mine x.id ∧ w.heap[m]? = some (.cells e.cells 37 (0, 0))
section
variable {x : Th} {O O1 : Gh} {w w1 : World} {m m' : Nat} {e : Ent}
theorem VarE.rely (h : VarE x O w m e) (r : Rel x O w O1 w1) : VarE x O1 w1 m e := by
  have hlt := (Array.getElem?_eq_some_iff.1 h.2).1
  exact ⟨(r.tags m hlt (.inl h.1)).trans h.1, (r.block m hlt (.inl h.1)).trans h.2⟩
theorem VarE.keep (h : VarE x O w m e) (k : Mod O w O1 w1 m') (hm : m ≠ m') : VarE x O1 w1 m e := by
  have hlt := (Array.getElem?_eq_some_iff.1 h.2).1
  exact ⟨(k.tags m hlt).trans h.1, (k.block m hlt hm).trans h.2⟩
theorem VarE.l0 (h : VarE x O w m e) : ldOf x O w ⟨m, 0, none⟩ = some (.string e.key) := ldOf_of (.inl h.1) (by unfold World.cell?; rw [h.2]; rfl)
theorem VarE.l1 (h : VarE x O w m e) : ldOf x O w ⟨m, 1, none⟩ = some (.int .i64 e.seq) := ldOf_of (.inl h.1) (by unfold World.cell?; rw [h.2]; rfl)
theorem VarE.l2 (h : VarE x O w m e) : ldOf x O w ⟨m, 2, none⟩ = some (.bool e.del) := ldOf_of (.inl h.1) (by unfold World.cell?; rw [h.2]; rfl)
theorem VarE.l3 (h : VarE x O w m e) : ldOf x O w ⟨m, 3, none⟩ = some (.string e.val) := ldOf_of (.inl h.1) (by unfold World.cell?; rw [h.2]; rfl)
theorem VarE.lw (h : VarE x O w m e) : loadN (ldOf x O w) 4 (.pointer (some ⟨m, 0, none⟩)) = some (.value e.v) := loadN4 (by rw [add_none]; exact h.l0) (by rw [add_none]; exact h.l1) (by rw [add_none]; exact h.l2) (by rw [add_none]; exact h.l3)
theorem VarE.lt (h : VarE x O w m e) : m < w.heap.size := (Array.getElem?_eq_some_iff.1 h.2).1
end
section
variable {x : Th} {St : Gh → Goroutine → World → Prop} {O : Gh} {w : World} {b : Frame} {n : Nat} {f : Nat → Value} {ds : List Deferred} {k : List Item} {cs : List Frame} {all os : List Oper} {i : Nat} {d : Nat} {t : TypeId} {p : String} {e : Array Edge}
def ent0 : Ent := ⟨⟨#[]⟩, 0, false, ⟨#[]⟩⟩
theorem t_allocE (hk : b.kind ≠ .early) (h : ∀ m O1 w1, Rel x O w O1 w1 → w.heap.size ≤ m → VarE x O1 w1 m ent0 → InReg P x St O1 w1 b n (upd f d (.pointer (some ⟨m, 0, none⟩))) ds all k cs (i + 1) os) :
    InReg P x St O w b n f ds all k cs i (⟨some d, .alloc 37, t, p, e, none⟩ :: os) :=
  t_alloc hk (zero37 _) fun m O1 w1 n1 => h m O1 w1 n1.rel n1.ge ⟨n1.tag, n1.obj⟩
theorem t_storeE {y z : Operand} {m : Nat} {a q : Ent} (hk : b.kind ≠ .early) (hy : ev n f y = .pointer (some ⟨m, 0, none⟩)) (hz : ev n f z = q.v) (hm : VarE x O w m a)
    (h : ∀ O1 w1 w', Rel x O w O1 w1 → Mod O1 w1 O1 w' m → VarE x O1 w' m q → InReg P x St O1 w' b n f ds all k cs (i + 1) os) :
    InReg P x St O w b n f ds all k cs i (⟨none, .store 37 y z, t, p, e, none⟩ :: os) :=
  t_store (sz := 4) (m := m) (off := 0) [.string q.key, .int .i64 q.seq, .bool q.del, .string q.val] hk rfl hy (by rw [hz]; rfl) rfl (by simp [one?]) (.inl hm.1) hm.2 (Nat.le_refl 4)
    fun O1 w1 w' r hmod ht hb => h O1 w1 w' r hmod ⟨ht.trans hm.1, by rw [hb]; rfl⟩
end
theorem x_build37_0 {L : Addr → Option Value} {ρ : Operand → Value} {d : Option Nat} {t : TypeId} {p : String} {e : Array Edge} {g : Option (Nat × Bool)} : runL P L (execOp ρ ⟨d, .build 37 #[], t, p, e, g⟩) = some (.value ent0.v) := by
  simp only [execOp, List.map_toArray, List.map_nil, Instr.build]
  simp only [runL_bind, zero37, Option.bind_some, runL_underlying, Try.underlying37]
  simp [runL_bind, runL_map, runL_pure, Instr.fill, Value.cells]
  rfl
theorem res_cell37 {L : Addr → Option Value} {F : Func} {n a u : Nat} {f : Nat → Value} {A : Addr} {v : Value} (hr : F.results = #[.cell a 37, .tmp u]) (ha : (mkT n f).getD a undef = .pointer (some A)) (hu : (mkT n f).getD u undef = ev n f (.tmp u))
    (hl : loadN L 4 (.pointer (some A)) = some (.value v)) : runL P L (results F (mkT n f)) = some (.tuple #[v, ev n f (.tmp u)]) := by
  have h1 : runL P L (loadVar 37 A) = some v := by
    have h2 := Xs (L := L) (ρ := fun _ => .pointer (some A)) (d := none) (t := 0) (p := "") (e := #[]) (g := none) (.const .nilFunc)
    rw [hl] at h2
    simp only [execOp, Instr.loadAt] at h2
    rw [runL_bind, runL_bind] at h2
    simp only [Instr.sureAddr, runL_pure, Option.bind_some] at h2
    cases hx : runL P L (loadVar 37 A) with
    | none => rw [hx] at h2; cases h2
    | some y => rw [hx] at h2; simpa [runL_pure] using h2
  unfold results
  rw [hr]
  rw [Array.getD_eq_getD_getElem?] at ha hu
  simp [runL_bind, runL_map, runL_pure, ha, h1, asAddr, hu]

/-! ### the answer -/
def getS (key : ByteArray) (seq : Int) (b : Option Ent) (a : Ent) : Option Ent :=
  if a.key.toList == key.toList then (if decide (a.seq ≤ seq) then (match b with
    | none => some a
    | some q => if decide (q.seq < a.seq) then some a else b) else b) else b
def getL (l : List Ent) (key : ByteArray) (seq : Int) : Option Ent := l.foldl (getS key seq) none
theorem getL_step {l : List Ent} {key : ByteArray} {seq : Int} {j : Nat} {a : Ent} (h : l[j]? = some a) : (l.take (j + 1)).foldl (getS key seq) none = getS key seq ((l.take j).foldl (getS key seq) none) a := by
  rw [List.take_add_one, h, List.foldl_append]; rfl

set_option maxHeartbeats 4000000 in
theorem Get_M {x : Th} {St : Gh → Goroutine → World → Prop} (l : List Ent) (v : Value) (key : ByteArray) (seq : Int) (O : Gh) (w : World) (c : Frame) (cs : List Frame) (hv : SlE (ldOf x O w) v l) (hlen : l.length < 1000000)
    (h : ∀ O' w', Rel x O w O' w' → Tree P x St O' (G (c.finish (.tuple #[((getL l key seq).getD ent0).v, .bool (getL l key seq).isSome])) cs) w') :
    Tree P x St O (G (Frame.enter P 35 #[v, .string key, .int .i64 seq] .normal) (c :: cs)) w := by
  rw [enter3 _ _ _ Try.func35 rfl Try.ntmps35 (by decide)]
  refine t_seq ?_
  refine t_region ?_
  refine t_allocE (by decide) ?_
  intro m6 O1 w1 r1 ge1 v1
  repeat (first
    | (refine t_skG rfl (by decide) rfl ?_)
    | (refine t_skU rfl (by decide) rfl ?_)
    | (first | refine t_rdG (by decide) rfl (by decide) rfl (fun K hK => ?_) | refine t_rd (by decide) (fun K hK => ?_)
       simp only [Xa, Xb, Xc, Xd, Xe, Xf, Xg, Xh, Xi, Xj, Xk, Xl, Xm, Xn, Xo, Xp, Xq, Xr, Xs, Xt, Xu, Xv, Xw, Xx, Xy, Xz, XA, XB, XD, XE, XF, XG, XH, XI, ev, XJ, upd, args1, args2, args3, args4, XK, XL, XM, extL, XN, XO, XP, XQ, XR, XT, XU, XV, XW, XX, XY, XZ, X0, X1, X2, X3, Addr.add, ↓reduceIte, Nat.reduceLT, Nat.reduceEqDiff, Nat.zero_add, Nat.reduceAdd, Option.map_some, X4, List.getElem_toArray, List.getElem_cons_zero, List.getElem_cons_succ]
       refine hK _ ?_
       clear hK K))
  refine t_done ?_
  refine t_seq ?_
  refine t_region ?_
  refine t_val (by decide) x_build37_0 ?_
  refine t_allocE (by decide) ?_
  intro m8 O2 w2 r2 ge2 v2
  refine t_storeE (q := ent0) (by decide) (by simp only [Xa, Xb, Xc, Xd, Xe, Xf, Xg, Xh, Xi, Xj, Xk, Xl, Xm, Xn, Xo, Xp, Xq, Xr, Xs, Xt, Xu, Xv, Xw, Xx, Xy, Xz, XA, XB, XD, XE, XF, XG, XH, XI, ev, XJ, upd, args1, args2, args3, args4, XK, XL, XM, extL, XN, XO, XP, XQ, XR, XT, XU, XV, XW, XX, XY, XZ, X0, X1, X2, X3, Addr.add, ↓reduceIte, Nat.reduceLT, Nat.reduceEqDiff, Nat.zero_add, Nat.reduceAdd, Option.map_some, X4, List.getElem_toArray, List.getElem_cons_zero, List.getElem_cons_succ]) (by simp only [Xa, Xb, Xc, Xd, Xe, Xf, Xg, Xh, Xi, Xj, Xk, Xl, Xm, Xn, Xo, Xp, Xq, Xr, Xs, Xt, Xu, Xv, Xw, Xx, Xy, Xz, XA, XB, XD, XE, XF, XG, XH, XI, ev, XJ, upd, args1, args2, args3, args4, XK, XL, XM, extL, XN, XO, XP, XQ, XR, XT, XU, XV, XW, XX, XY, XZ, X0, X1, X2, X3, Addr.add, ↓reduceIte, Nat.reduceLT, Nat.reduceEqDiff, Nat.zero_add, Nat.reduceAdd, Option.map_some, X4, List.getElem_toArray, List.getElem_cons_zero, List.getElem_cons_succ]) v2 ?_
  intro O3 w3 w4 r3 md3 v3
  have v13 := (v1.rely r2).rely r3
  have hne : m6 ≠ m8 := by have := v1.lt; omega
  have v14 := v13.keep md3 hne
  have r4 : Rel x O w O3 w4 := ((r1.trans r2).trans r3).mod md3 (by have := r1.size; omega)
  have g6 : w.heap.size ≤ m6 := ge1
  have g8 : w.heap.size ≤ m8 := by have := r1.size; omega
  repeat (first
    | (refine t_skG rfl (by decide) rfl ?_)
    | (refine t_skU rfl (by decide) rfl ?_)
    | (first | refine t_rdG (by decide) rfl (by decide) rfl (fun K hK => ?_) | refine t_rd (by decide) (fun K hK => ?_)
       simp only [Xa, Xb, Xc, Xd, Xe, Xf, Xg, Xh, Xi, Xj, Xk, Xl, Xm, Xn, Xo, Xp, Xq, Xr, Xs, Xt, Xu, Xv, Xw, Xx, Xy, Xz, XA, XB, XD, XE, XF, XG, XH, XI, ev, XJ, upd, args1, args2, args3, args4, XK, XL, XM, extL, XN, XO, XP, XQ, XR, XT, XU, XV, XW, XX, XY, XZ, X0, X1, X2, X3, Addr.add, ↓reduceIte, Nat.reduceLT, Nat.reduceEqDiff, Nat.zero_add, Nat.reduceAdd, Option.map_some, X4, List.getElem_toArray, List.getElem_cons_zero, List.getElem_cons_succ]
       refine hK _ ?_
       clear hK K))
  refine t_done ?_
  refine t_seq ?_
  refine t_seq ?_
  refine t_region ?_
  repeat (first
    | (refine t_skG rfl (by decide) rfl ?_)
    | (refine t_skU rfl (by decide) rfl ?_)
    | (first | refine t_rdG (by decide) rfl (by decide) rfl (fun K hK => ?_) | refine t_rd (by decide) (fun K hK => ?_)
       simp only [Xa, Xb, Xc, Xd, Xe, Xf, Xg, Xh, Xi, Xj, Xk, Xl, Xm, Xn, Xo, Xp, Xq, Xr, Xs, Xt, Xu, Xv, Xw, Xx, Xy, Xz, XA, XB, XD, XE, XF, XG, XH, XI, ev, XJ, upd, args1, args2, args3, args4, XK, XL, XM, extL, XN, XO, XP, XQ, XR, XT, XU, XV, XW, XX, XY, XZ, X0, X1, X2, X3, Addr.add, ↓reduceIte, Nat.reduceLT, Nat.reduceEqDiff, Nat.zero_add, Nat.reduceAdd, Option.map_some, X4, List.getElem_toArray, List.getElem_cons_zero, List.getElem_cons_succ]
       refine hK _ ?_
       clear hK K))
  refine t_done ?_
  refine t_block ?_
  refine t_loop ?_
  refine t_while (fun m f O' w' => Rel x O w O' w' ∧ f 0 = v ∧ f 1 = .string key ∧ f 2 = .int .i64 seq ∧ f 6 = .pointer (some ⟨m6, 0, none⟩) ∧ f 8 = .pointer (some ⟨m8, 0, none⟩) ∧ VarE x O' w' m6 ent0 ∧
      ∃ (j : Nat) (q : Option Ent), f 10 = .int .i64 (j : Int) ∧ m = l.length - j ∧ j ≤ l.length ∧ q = (l.take j).foldl (getS key seq) none ∧ f 9 = .bool q.isSome ∧ VarE x O' w' m8 (q.getD ent0))
    l.length ⟨r4, rfl, rfl, rfl, rfl, rfl, v14, 0, none, rfl, rfl, Nat.zero_le _, rfl, rfl, v3⟩ ?_
  rintro m f O5 w5 ⟨r5, hf0, hf1, hf2, hf6, hf8, hv6, j, q, hf10, hm, hj, hq, hf9, hv8⟩ ih
  have hv5 := hv.rely r5
  have hl := hv5.len
  have hw2 : IntKind.i64.wrap ((j : Int) + 1) = ((j + 1 : Nat) : Int) := by rw [wrap64] <;> omega
  refine t_seq ?_
  refine t_seq ?_
  refine t_region ?_
  by_cases hlt : j < l.length
  · have hd : decide ((j : Int) < (l.length : Int)) = true := by simp; omega
    repeat (first
      | (refine t_skG rfl (by decide) rfl ?_)
      | (refine t_skU rfl (by decide) rfl ?_)
      | (first | refine t_rdG (by decide) rfl (by decide) rfl (fun K hK => ?_) | refine t_rd (by decide) (fun K hK => ?_)
         simp only [Xa, Xb, Xc, Xd, Xe, Xf, Xg, Xh, Xi, Xj, Xk, Xl, Xm, Xn, Xo, Xp, Xq, Xr, Xs, Xt, Xu, Xv, Xw, Xx, Xy, Xz, XA, XB, XD, XE, XF, XG, XH, XI, ev, XJ, upd, args1, args2, args3, args4, XK, XL, XM, extL, XN, XO, XP, XQ, XR, XT, XU, XV, XW, XX, XY, XZ, X0, X1, X2, X3, Addr.add, ↓reduceIte, Nat.reduceLT, Nat.reduceEqDiff, Nat.zero_add, Nat.reduceAdd, Option.map_some, X4, List.getElem_toArray, List.getElem_cons_zero, List.getElem_cons_succ, hf0, hf10, hl, hd]
         refine hK _ ?_
         clear hK K))
    refine t_done ?_
    refine t_true rfl ?_
    refine t_skip ?_
    refine t_seq ?_
    refine t_block ?_
    refine t_seq ?_
    have ha := List.getElem?_eq_getElem hlt
    have hstep := getL_step (key := key) (seq := seq) ha
    generalize l[j] = a at ha hstep
    rw [← hq] at hstep
    obtain ⟨A, hA⟩ := hv5.at ha
    have iA := hA.idx
    have fA := hA.f0
    have sA := hA.f1
    have wA := hA.whole
    have l1 := hv8.l1
    refine t_drawn rfl (by decide) ?_
    cases hk1 : (a.key.toList == key.toList) with
    | false =>
      have hs : getS key seq q a = q := by unfold getS; rw [hk1]; rfl
      repeat (first
        | (refine d_skG rfl (by decide) rfl ?_)
        | (refine d_skU rfl (by decide) rfl ?_)
        | (first | refine d_rdG rfl (by decide) rfl (fun K hK => ?_) | refine d_rd (fun K hK => ?_)
           simp only [Xa, Xb, Xc, Xd, Xe, Xf, Xg, Xh, Xi, Xj, Xk, Xl, Xm, Xn, Xo, Xp, Xq, Xr, Xs, Xt, Xu, Xv, Xw, Xx, Xy, Xz, XA, XB, XD, XE, XF, XG, XH, XI, ev, XJ, upd, args1, args2, args3, args4, XK, XL, XM, extL, XN, XO, XP, XQ, XR, XT, XU, XV, XW, XX, XY, XZ, X0, X1, X2, X3, Addr.add, ↓reduceIte, Nat.reduceLT, Nat.reduceEqDiff, Nat.zero_add, Nat.reduceAdd, Option.map_some, X4, List.getElem_toArray, List.getElem_cons_zero, List.getElem_cons_succ, hf0, hf1, hf2, hf8, hf9, hf10, iA, fA, sA, l1, hk1]
           refine hK _ ?_
           clear hK K))
      refine d_done ?_
      intro O6 w6 r6
      refine t_false (by first | (simp only [Xa, Xb, Xc, Xd, Xe, Xf, Xg, Xh, Xi, Xj, Xk, Xl, Xm, Xn, Xo, Xp, Xq, Xr, Xs, Xt, Xu, Xv, Xw, Xx, Xy, Xz, XA, XB, XD, XE, XF, XG, XH, XI, ev, XJ, upd, args1, args2, args3, args4, XK, XL, XM, extL, XN, XO, XP, XQ, XR, XT, XU, XV, XW, XX, XY, XZ, X0, X1, X2, X3, Addr.add, ↓reduceIte, Nat.reduceLT, Nat.reduceEqDiff, Nat.zero_add, Nat.reduceAdd, Option.map_some, X4, List.getElem_toArray, List.getElem_cons_zero, List.getElem_cons_succ]; done) | (simp only [Xa, Xb, Xc, Xd, Xe, Xf, Xg, Xh, Xi, Xj, Xk, Xl, Xm, Xn, Xo, Xp, Xq, Xr, Xs, Xt, Xu, Xv, Xw, Xx, Xy, Xz, XA, XB, XD, XE, XF, XG, XH, XI, ev, XJ, upd, args1, args2, args3, args4, XK, XL, XM, extL, XN, XO, XP, XQ, XR, XT, XU, XV, XW, XX, XY, XZ, X0, X1, X2, X3, Addr.add, ↓reduceIte, Nat.reduceLT, Nat.reduceEqDiff, Nat.zero_add, Nat.reduceAdd, Option.map_some, X4, List.getElem_toArray, List.getElem_cons_zero, List.getElem_cons_succ]; rfl)) ?_
      refine t_skip ?_
      refine t_inBlock ?_
      refine t_region ?_
      repeat (first
        | (refine t_skG rfl (by decide) rfl ?_)
        | (refine t_skU rfl (by decide) rfl ?_)
        | (first | refine t_rdG (by decide) rfl (by decide) rfl (fun K hK => ?_) | refine t_rd (by decide) (fun K hK => ?_)
           simp only [Xa, Xb, Xc, Xd, Xe, Xf, Xg, Xh, Xi, Xj, Xk, Xl, Xm, Xn, Xo, Xp, Xq, Xr, Xs, Xt, Xu, Xv, Xw, Xx, Xy, Xz, XA, XB, XD, XE, XF, XG, XH, XI, ev, XJ, upd, args1, args2, args3, args4, XK, XL, XM, extL, XN, XO, XP, XQ, XR, XT, XU, XV, XW, XX, XY, XZ, X0, X1, X2, X3, Addr.add, ↓reduceIte, Nat.reduceLT, Nat.reduceEqDiff, Nat.zero_add, Nat.reduceAdd, Option.map_some, X4, List.getElem_toArray, List.getElem_cons_zero, List.getElem_cons_succ, hf10, hw2]
           refine hK _ ?_
           clear hK K))
      refine t_done ?_
      refine t_inLoop ?_
      exact ih (l.length - (j + 1)) _ O6 w6 (by omega) ⟨r5.trans r6, hf0, hf1, hf2, hf6, hf8, hv6.rely r6, j + 1, q, rfl, rfl, by omega, by rw [hstep, hs], hf9, hv8.rely r6⟩
    | true =>
      cases hk2 : decide (a.seq ≤ seq) with
      | false =>
        have hs : getS key seq q a = q := by unfold getS; rw [hk1, hk2]; rfl
        repeat (first
          | (refine d_skG rfl (by decide) rfl ?_)
          | (refine d_skU rfl (by decide) rfl ?_)
          | (first | refine d_rdG rfl (by decide) rfl (fun K hK => ?_) | refine d_rd (fun K hK => ?_)
             simp only [Xa, Xb, Xc, Xd, Xe, Xf, Xg, Xh, Xi, Xj, Xk, Xl, Xm, Xn, Xo, Xp, Xq, Xr, Xs, Xt, Xu, Xv, Xw, Xx, Xy, Xz, XA, XB, XD, XE, XF, XG, XH, XI, ev, XJ, upd, args1, args2, args3, args4, XK, XL, XM, extL, XN, XO, XP, XQ, XR, XT, XU, XV, XW, XX, XY, XZ, X0, X1, X2, X3, Addr.add, ↓reduceIte, Nat.reduceLT, Nat.reduceEqDiff, Nat.zero_add, Nat.reduceAdd, Option.map_some, X4, List.getElem_toArray, List.getElem_cons_zero, List.getElem_cons_succ, hf0, hf1, hf2, hf8, hf9, hf10, iA, fA, sA, l1, hk1, hk2]
             refine hK _ ?_
             clear hK K))
        refine d_done ?_
        intro O6 w6 r6
        refine t_false (by first | (simp only [Xa, Xb, Xc, Xd, Xe, Xf, Xg, Xh, Xi, Xj, Xk, Xl, Xm, Xn, Xo, Xp, Xq, Xr, Xs, Xt, Xu, Xv, Xw, Xx, Xy, Xz, XA, XB, XD, XE, XF, XG, XH, XI, ev, XJ, upd, args1, args2, args3, args4, XK, XL, XM, extL, XN, XO, XP, XQ, XR, XT, XU, XV, XW, XX, XY, XZ, X0, X1, X2, X3, Addr.add, ↓reduceIte, Nat.reduceLT, Nat.reduceEqDiff, Nat.zero_add, Nat.reduceAdd, Option.map_some, X4, List.getElem_toArray, List.getElem_cons_zero, List.getElem_cons_succ]; done) | (simp only [Xa, Xb, Xc, Xd, Xe, Xf, Xg, Xh, Xi, Xj, Xk, Xl, Xm, Xn, Xo, Xp, Xq, Xr, Xs, Xt, Xu, Xv, Xw, Xx, Xy, Xz, XA, XB, XD, XE, XF, XG, XH, XI, ev, XJ, upd, args1, args2, args3, args4, XK, XL, XM, extL, XN, XO, XP, XQ, XR, XT, XU, XV, XW, XX, XY, XZ, X0, X1, X2, X3, Addr.add, ↓reduceIte, Nat.reduceLT, Nat.reduceEqDiff, Nat.zero_add, Nat.reduceAdd, Option.map_some, X4, List.getElem_toArray, List.getElem_cons_zero, List.getElem_cons_succ]; rfl)) ?_
        refine t_skip ?_
        refine t_inBlock ?_
        refine t_region ?_
        repeat (first
          | (refine t_skG rfl (by decide) rfl ?_)
          | (refine t_skU rfl (by decide) rfl ?_)
          | (first | refine t_rdG (by decide) rfl (by decide) rfl (fun K hK => ?_) | refine t_rd (by decide) (fun K hK => ?_)
             simp only [Xa, Xb, Xc, Xd, Xe, Xf, Xg, Xh, Xi, Xj, Xk, Xl, Xm, Xn, Xo, Xp, Xq, Xr, Xs, Xt, Xu, Xv, Xw, Xx, Xy, Xz, XA, XB, XD, XE, XF, XG, XH, XI, ev, XJ, upd, args1, args2, args3, args4, XK, XL, XM, extL, XN, XO, XP, XQ, XR, XT, XU, XV, XW, XX, XY, XZ, X0, X1, X2, X3, Addr.add, ↓reduceIte, Nat.reduceLT, Nat.reduceEqDiff, Nat.zero_add, Nat.reduceAdd, Option.map_some, X4, List.getElem_toArray, List.getElem_cons_zero, List.getElem_cons_succ, hf10, hw2]
             refine hK _ ?_
             clear hK K))
        refine t_done ?_
        refine t_inLoop ?_
        exact ih (l.length - (j + 1)) _ O6 w6 (by omega) ⟨r5.trans r6, hf0, hf1, hf2, hf6, hf8, hv6.rely r6, j + 1, q, rfl, rfl, by omega, by rw [hstep, hs], hf9, hv8.rely r6⟩
      | true =>
        cases hq2 : q with
        | none =>
          have hs : getS key seq q a = some a := by unfold getS; rw [hk1, hk2, hq2]; rfl
          have hf9' : f 9 = .bool false := by rw [hf9, hq2]; rfl
          repeat (first
            | (refine d_skG rfl (by decide) rfl ?_)
            | (refine d_skU rfl (by decide) rfl ?_)
            | (first | refine d_rdG rfl (by decide) rfl (fun K hK => ?_) | refine d_rd (fun K hK => ?_)
               simp only [Xa, Xb, Xc, Xd, Xe, Xf, Xg, Xh, Xi, Xj, Xk, Xl, Xm, Xn, Xo, Xp, Xq, Xr, Xs, Xt, Xu, Xv, Xw, Xx, Xy, Xz, XA, XB, XD, XE, XF, XG, XH, XI, ev, XJ, upd, args1, args2, args3, args4, XK, XL, XM, extL, XN, XO, XP, XQ, XR, XT, XU, XV, XW, XX, XY, XZ, X0, X1, X2, X3, Addr.add, ↓reduceIte, Nat.reduceLT, Nat.reduceEqDiff, Nat.zero_add, Nat.reduceAdd, Option.map_some, X4, List.getElem_toArray, List.getElem_cons_zero, List.getElem_cons_succ, hf0, hf1, hf2, hf8, hf9', hf10, iA, fA, sA, l1, hk1, hk2]
               refine hK _ ?_
               clear hK K))
          refine d_done ?_
          intro O6 w6 r6
          refine t_true (by first | (simp only [Xa, Xb, Xc, Xd, Xe, Xf, Xg, Xh, Xi, Xj, Xk, Xl, Xm, Xn, Xo, Xp, Xq, Xr, Xs, Xt, Xu, Xv, Xw, Xx, Xy, Xz, XA, XB, XD, XE, XF, XG, XH, XI, ev, XJ, upd, args1, args2, args3, args4, XK, XL, XM, extL, XN, XO, XP, XQ, XR, XT, XU, XV, XW, XX, XY, XZ, X0, X1, X2, X3, Addr.add, ↓reduceIte, Nat.reduceLT, Nat.reduceEqDiff, Nat.zero_add, Nat.reduceAdd, Option.map_some, X4, List.getElem_toArray, List.getElem_cons_zero, List.getElem_cons_succ]; done) | (simp only [Xa, Xb, Xc, Xd, Xe, Xf, Xg, Xh, Xi, Xj, Xk, Xl, Xm, Xn, Xo, Xp, Xq, Xr, Xs, Xt, Xu, Xv, Xw, Xx, Xy, Xz, XA, XB, XD, XE, XF, XG, XH, XI, ev, XJ, upd, args1, args2, args3, args4, XK, XL, XM, extL, XN, XO, XP, XQ, XR, XT, XU, XV, XW, XX, XY, XZ, X0, X1, X2, X3, Addr.add, ↓reduceIte, Nat.reduceLT, Nat.reduceEqDiff, Nat.zero_add, Nat.reduceAdd, Option.map_some, X4, List.getElem_toArray, List.getElem_cons_zero, List.getElem_cons_succ]; rfl)) ?_
          have iA6 := (hv5.rely r6)
          obtain ⟨B, hB⟩ := iA6.at ha
          have iB := hB.idx
          have wB := hB.whole
          refine t_seq ?_
          refine t_region ?_
          iterate 4 (first
            | (refine t_skG rfl (by decide) rfl ?_)
            | (refine t_skU rfl (by decide) rfl ?_)
            | (first | refine t_rdG (by decide) rfl (by decide) rfl (fun K hK => ?_) | refine t_rd (by decide) (fun K hK => ?_)
               simp only [Xa, Xb, Xc, Xd, Xe, Xf, Xg, Xh, Xi, Xj, Xk, Xl, Xm, Xn, Xo, Xp, Xq, Xr, Xs, Xt, Xu, Xv, Xw, Xx, Xy, Xz, XA, XB, XD, XE, XF, XG, XH, XI, ev, XJ, upd, args1, args2, args3, args4, XK, XL, XM, extL, XN, XO, XP, XQ, XR, XT, XU, XV, XW, XX, XY, XZ, X0, X1, X2, X3, Addr.add, ↓reduceIte, Nat.reduceLT, Nat.reduceEqDiff, Nat.zero_add, Nat.reduceAdd, Option.map_some, X4, List.getElem_toArray, List.getElem_cons_zero, List.getElem_cons_succ, hf0, hf8, hf10, iB, wB]
               refine hK _ ?_
               clear hK K))
          refine t_storeE (q := a) (by decide) (by simp only [Xa, Xb, Xc, Xd, Xe, Xf, Xg, Xh, Xi, Xj, Xk, Xl, Xm, Xn, Xo, Xp, Xq, Xr, Xs, Xt, Xu, Xv, Xw, Xx, Xy, Xz, XA, XB, XD, XE, XF, XG, XH, XI, ev, XJ, upd, args1, args2, args3, args4, XK, XL, XM, extL, XN, XO, XP, XQ, XR, XT, XU, XV, XW, XX, XY, XZ, X0, X1, X2, X3, Addr.add, ↓reduceIte, Nat.reduceLT, Nat.reduceEqDiff, Nat.zero_add, Nat.reduceAdd, Option.map_some, X4, List.getElem_toArray, List.getElem_cons_zero, List.getElem_cons_succ, hf8]) (by simp only [Xa, Xb, Xc, Xd, Xe, Xf, Xg, Xh, Xi, Xj, Xk, Xl, Xm, Xn, Xo, Xp, Xq, Xr, Xs, Xt, Xu, Xv, Xw, Xx, Xy, Xz, XA, XB, XD, XE, XF, XG, XH, XI, ev, XJ, upd, args1, args2, args3, args4, XK, XL, XM, extL, XN, XO, XP, XQ, XR, XT, XU, XV, XW, XX, XY, XZ, X0, X1, X2, X3, Addr.add, ↓reduceIte, Nat.reduceLT, Nat.reduceEqDiff, Nat.zero_add, Nat.reduceAdd, Option.map_some, X4, List.getElem_toArray, List.getElem_cons_zero, List.getElem_cons_succ]) (hv8.rely r6) ?_
          intro O7 w7 w8 r7 md7 v7
          refine t_done ?_
          refine t_region ?_
          repeat (first
            | (refine t_skG rfl (by decide) rfl ?_)
            | (refine t_skU rfl (by decide) rfl ?_)
            | (first | refine t_rdG (by decide) rfl (by decide) rfl (fun K hK => ?_) | refine t_rd (by decide) (fun K hK => ?_)
               simp only [Xa, Xb, Xc, Xd, Xe, Xf, Xg, Xh, Xi, Xj, Xk, Xl, Xm, Xn, Xo, Xp, Xq, Xr, Xs, Xt, Xu, Xv, Xw, Xx, Xy, Xz, XA, XB, XD, XE, XF, XG, XH, XI, ev, XJ, upd, args1, args2, args3, args4, XK, XL, XM, extL, XN, XO, XP, XQ, XR, XT, XU, XV, XW, XX, XY, XZ, X0, X1, X2, X3, Addr.add, ↓reduceIte, Nat.reduceLT, Nat.reduceEqDiff, Nat.zero_add, Nat.reduceAdd, Option.map_some, X4, List.getElem_toArray, List.getElem_cons_zero, List.getElem_cons_succ]
               refine hK _ ?_
               clear hK K))
          refine t_done ?_
          refine t_inBlock ?_
          refine t_region ?_
          repeat (first
            | (refine t_skG rfl (by decide) rfl ?_)
            | (refine t_skU rfl (by decide) rfl ?_)
            | (first | refine t_rdG (by decide) rfl (by decide) rfl (fun K hK => ?_) | refine t_rd (by decide) (fun K hK => ?_)
               simp only [Xa, Xb, Xc, Xd, Xe, Xf, Xg, Xh, Xi, Xj, Xk, Xl, Xm, Xn, Xo, Xp, Xq, Xr, Xs, Xt, Xu, Xv, Xw, Xx, Xy, Xz, XA, XB, XD, XE, XF, XG, XH, XI, ev, XJ, upd, args1, args2, args3, args4, XK, XL, XM, extL, XN, XO, XP, XQ, XR, XT, XU, XV, XW, XX, XY, XZ, X0, X1, X2, X3, Addr.add, ↓reduceIte, Nat.reduceLT, Nat.reduceEqDiff, Nat.zero_add, Nat.reduceAdd, Option.map_some, X4, List.getElem_toArray, List.getElem_cons_zero, List.getElem_cons_succ, hf10, hw2]
               refine hK _ ?_
               clear hK K))
          refine t_done ?_
          refine t_inLoop ?_
          have r8 : Rel x O w O7 w8 := ((r5.trans r6).trans r7).mod md7 g8
          exact ih (l.length - (j + 1)) _ O7 w8 (by omega) ⟨r8, hf0, hf1, hf2, hf6, hf8, ((hv6.rely r6).rely r7).keep md7 hne, j + 1, some a, rfl, rfl, by omega, by rw [hstep, hs], rfl, v7⟩
        | some u =>
          have hf9' : f 9 = .bool true := by rw [hf9, hq2]; rfl
          have l1' : ldOf x O5 w5 ⟨m8, 1, none⟩ = some (.int .i64 u.seq) := by rw [l1, hq2]; rfl
          cases hk3 : decide (u.seq < a.seq) with
          | false =>
            have hs : getS key seq q a = q := by unfold getS; rw [hk1, hk2, hq2]; simp only [hk3]; rfl
            repeat (first
              | (refine d_skG rfl (by decide) rfl ?_)
              | (refine d_skU rfl (by decide) rfl ?_)
              | (first | refine d_rdG rfl (by decide) rfl (fun K hK => ?_) | refine d_rd (fun K hK => ?_)
                 simp only [Xa, Xb, Xc, Xd, Xe, Xf, Xg, Xh, Xi, Xj, Xk, Xl, Xm, Xn, Xo, Xp, Xq, Xr, Xs, Xt, Xu, Xv, Xw, Xx, Xy, Xz, XA, XB, XD, XE, XF, XG, XH, XI, ev, XJ, upd, args1, args2, args3, args4, XK, XL, XM, extL, XN, XO, XP, XQ, XR, XT, XU, XV, XW, XX, XY, XZ, X0, X1, X2, X3, Addr.add, ↓reduceIte, Nat.reduceLT, Nat.reduceEqDiff, Nat.zero_add, Nat.reduceAdd, Option.map_some, X4, List.getElem_toArray, List.getElem_cons_zero, List.getElem_cons_succ, hf0, hf1, hf2, hf8, hf9', hf10, iA, fA, sA, l1', hk1, hk2, hk3]
                 refine hK _ ?_
                 clear hK K))
            refine d_done ?_
            intro O6 w6 r6
            refine t_false (by first | (simp only [Xa, Xb, Xc, Xd, Xe, Xf, Xg, Xh, Xi, Xj, Xk, Xl, Xm, Xn, Xo, Xp, Xq, Xr, Xs, Xt, Xu, Xv, Xw, Xx, Xy, Xz, XA, XB, XD, XE, XF, XG, XH, XI, ev, XJ, upd, args1, args2, args3, args4, XK, XL, XM, extL, XN, XO, XP, XQ, XR, XT, XU, XV, XW, XX, XY, XZ, X0, X1, X2, X3, Addr.add, ↓reduceIte, Nat.reduceLT, Nat.reduceEqDiff, Nat.zero_add, Nat.reduceAdd, Option.map_some, X4, List.getElem_toArray, List.getElem_cons_zero, List.getElem_cons_succ]; done) | (simp only [Xa, Xb, Xc, Xd, Xe, Xf, Xg, Xh, Xi, Xj, Xk, Xl, Xm, Xn, Xo, Xp, Xq, Xr, Xs, Xt, Xu, Xv, Xw, Xx, Xy, Xz, XA, XB, XD, XE, XF, XG, XH, XI, ev, XJ, upd, args1, args2, args3, args4, XK, XL, XM, extL, XN, XO, XP, XQ, XR, XT, XU, XV, XW, XX, XY, XZ, X0, X1, X2, X3, Addr.add, ↓reduceIte, Nat.reduceLT, Nat.reduceEqDiff, Nat.zero_add, Nat.reduceAdd, Option.map_some, X4, List.getElem_toArray, List.getElem_cons_zero, List.getElem_cons_succ]; rfl)) ?_
            refine t_skip ?_
            refine t_inBlock ?_
            refine t_region ?_
            repeat (first
              | (refine t_skG rfl (by decide) rfl ?_)
              | (refine t_skU rfl (by decide) rfl ?_)
              | (first | refine t_rdG (by decide) rfl (by decide) rfl (fun K hK => ?_) | refine t_rd (by decide) (fun K hK => ?_)
                 simp only [Xa, Xb, Xc, Xd, Xe, Xf, Xg, Xh, Xi, Xj, Xk, Xl, Xm, Xn, Xo, Xp, Xq, Xr, Xs, Xt, Xu, Xv, Xw, Xx, Xy, Xz, XA, XB, XD, XE, XF, XG, XH, XI, ev, XJ, upd, args1, args2, args3, args4, XK, XL, XM, extL, XN, XO, XP, XQ, XR, XT, XU, XV, XW, XX, XY, XZ, X0, X1, X2, X3, Addr.add, ↓reduceIte, Nat.reduceLT, Nat.reduceEqDiff, Nat.zero_add, Nat.reduceAdd, Option.map_some, X4, List.getElem_toArray, List.getElem_cons_zero, List.getElem_cons_succ, hf10, hw2]
                 refine hK _ ?_
                 clear hK K))
            refine t_done ?_
            refine t_inLoop ?_
            exact ih (l.length - (j + 1)) _ O6 w6 (by omega) ⟨r5.trans r6, hf0, hf1, hf2, hf6, hf8, hv6.rely r6, j + 1, q, rfl, rfl, by omega, by rw [hstep, hs], hf9, hv8.rely r6⟩
          | true =>
            have hs : getS key seq q a = some a := by unfold getS; rw [hk1, hk2, hq2]; simp only [hk3]; rfl
            repeat (first
              | (refine d_skG rfl (by decide) rfl ?_)
              | (refine d_skU rfl (by decide) rfl ?_)
              | (first | refine d_rdG rfl (by decide) rfl (fun K hK => ?_) | refine d_rd (fun K hK => ?_)
                 simp only [Xa, Xb, Xc, Xd, Xe, Xf, Xg, Xh, Xi, Xj, Xk, Xl, Xm, Xn, Xo, Xp, Xq, Xr, Xs, Xt, Xu, Xv, Xw, Xx, Xy, Xz, XA, XB, XD, XE, XF, XG, XH, XI, ev, XJ, upd, args1, args2, args3, args4, XK, XL, XM, extL, XN, XO, XP, XQ, XR, XT, XU, XV, XW, XX, XY, XZ, X0, X1, X2, X3, Addr.add, ↓reduceIte, Nat.reduceLT, Nat.reduceEqDiff, Nat.zero_add, Nat.reduceAdd, Option.map_some, X4, List.getElem_toArray, List.getElem_cons_zero, List.getElem_cons_succ, hf0, hf1, hf2, hf8, hf9', hf10, iA, fA, sA, l1', hk1, hk2, hk3]
                 refine hK _ ?_
                 clear hK K))
            refine d_done ?_
            intro O6 w6 r6
            refine t_true (by first | (simp only [Xa, Xb, Xc, Xd, Xe, Xf, Xg, Xh, Xi, Xj, Xk, Xl, Xm, Xn, Xo, Xp, Xq, Xr, Xs, Xt, Xu, Xv, Xw, Xx, Xy, Xz, XA, XB, XD, XE, XF, XG, XH, XI, ev, XJ, upd, args1, args2, args3, args4, XK, XL, XM, extL, XN, XO, XP, XQ, XR, XT, XU, XV, XW, XX, XY, XZ, X0, X1, X2, X3, Addr.add, ↓reduceIte, Nat.reduceLT, Nat.reduceEqDiff, Nat.zero_add, Nat.reduceAdd, Option.map_some, X4, List.getElem_toArray, List.getElem_cons_zero, List.getElem_cons_succ]; done) | (simp only [Xa, Xb, Xc, Xd, Xe, Xf, Xg, Xh, Xi, Xj, Xk, Xl, Xm, Xn, Xo, Xp, Xq, Xr, Xs, Xt, Xu, Xv, Xw, Xx, Xy, Xz, XA, XB, XD, XE, XF, XG, XH, XI, ev, XJ, upd, args1, args2, args3, args4, XK, XL, XM, extL, XN, XO, XP, XQ, XR, XT, XU, XV, XW, XX, XY, XZ, X0, X1, X2, X3, Addr.add, ↓reduceIte, Nat.reduceLT, Nat.reduceEqDiff, Nat.zero_add, Nat.reduceAdd, Option.map_some, X4, List.getElem_toArray, List.getElem_cons_zero, List.getElem_cons_succ]; rfl)) ?_
            have iA6 := (hv5.rely r6)
            obtain ⟨B, hB⟩ := iA6.at ha
            have iB := hB.idx
            have wB := hB.whole
            refine t_seq ?_
            refine t_region ?_
            iterate 4 (first
              | (refine t_skG rfl (by decide) rfl ?_)
              | (refine t_skU rfl (by decide) rfl ?_)
              | (first | refine t_rdG (by decide) rfl (by decide) rfl (fun K hK => ?_) | refine t_rd (by decide) (fun K hK => ?_)
                 simp only [Xa, Xb, Xc, Xd, Xe, Xf, Xg, Xh, Xi, Xj, Xk, Xl, Xm, Xn, Xo, Xp, Xq, Xr, Xs, Xt, Xu, Xv, Xw, Xx, Xy, Xz, XA, XB, XD, XE, XF, XG, XH, XI, ev, XJ, upd, args1, args2, args3, args4, XK, XL, XM, extL, XN, XO, XP, XQ, XR, XT, XU, XV, XW, XX, XY, XZ, X0, X1, X2, X3, Addr.add, ↓reduceIte, Nat.reduceLT, Nat.reduceEqDiff, Nat.zero_add, Nat.reduceAdd, Option.map_some, X4, List.getElem_toArray, List.getElem_cons_zero, List.getElem_cons_succ, hf0, hf8, hf10, iB, wB]
                 refine hK _ ?_
                 clear hK K))
            refine t_storeE (q := a) (by decide) (by simp only [Xa, Xb, Xc, Xd, Xe, Xf, Xg, Xh, Xi, Xj, Xk, Xl, Xm, Xn, Xo, Xp, Xq, Xr, Xs, Xt, Xu, Xv, Xw, Xx, Xy, Xz, XA, XB, XD, XE, XF, XG, XH, XI, ev, XJ, upd, args1, args2, args3, args4, XK, XL, XM, extL, XN, XO, XP, XQ, XR, XT, XU, XV, XW, XX, XY, XZ, X0, X1, X2, X3, Addr.add, ↓reduceIte, Nat.reduceLT, Nat.reduceEqDiff, Nat.zero_add, Nat.reduceAdd, Option.map_some, X4, List.getElem_toArray, List.getElem_cons_zero, List.getElem_cons_succ, hf8]) (by simp only [Xa, Xb, Xc, Xd, Xe, Xf, Xg, Xh, Xi, Xj, Xk, Xl, Xm, Xn, Xo, Xp, Xq, Xr, Xs, Xt, Xu, Xv, Xw, Xx, Xy, Xz, XA, XB, XD, XE, XF, XG, XH, XI, ev, XJ, upd, args1, args2, args3, args4, XK, XL, XM, extL, XN, XO, XP, XQ, XR, XT, XU, XV, XW, XX, XY, XZ, X0, X1, X2, X3, Addr.add, ↓reduceIte, Nat.reduceLT, Nat.reduceEqDiff, Nat.zero_add, Nat.reduceAdd, Option.map_some, X4, List.getElem_toArray, List.getElem_cons_zero, List.getElem_cons_succ]) (hv8.rely r6) ?_
            intro O7 w7 w8 r7 md7 v7
            refine t_done ?_
            refine t_region ?_
            repeat (first
              | (refine t_skG rfl (by decide) rfl ?_)
              | (refine t_skU rfl (by decide) rfl ?_)
              | (first | refine t_rdG (by decide) rfl (by decide) rfl (fun K hK => ?_) | refine t_rd (by decide) (fun K hK => ?_)
                 simp only [Xa, Xb, Xc, Xd, Xe, Xf, Xg, Xh, Xi, Xj, Xk, Xl, Xm, Xn, Xo, Xp, Xq, Xr, Xs, Xt, Xu, Xv, Xw, Xx, Xy, Xz, XA, XB, XD, XE, XF, XG, XH, XI, ev, XJ, upd, args1, args2, args3, args4, XK, XL, XM, extL, XN, XO, XP, XQ, XR, XT, XU, XV, XW, XX, XY, XZ, X0, X1, X2, X3, Addr.add, ↓reduceIte, Nat.reduceLT, Nat.reduceEqDiff, Nat.zero_add, Nat.reduceAdd, Option.map_some, X4, List.getElem_toArray, List.getElem_cons_zero, List.getElem_cons_succ]
                 refine hK _ ?_
                 clear hK K))
            refine t_done ?_
            refine t_inBlock ?_
            refine t_region ?_
            repeat (first
              | (refine t_skG rfl (by decide) rfl ?_)
              | (refine t_skU rfl (by decide) rfl ?_)
              | (first | refine t_rdG (by decide) rfl (by decide) rfl (fun K hK => ?_) | refine t_rd (by decide) (fun K hK => ?_)
                 simp only [Xa, Xb, Xc, Xd, Xe, Xf, Xg, Xh, Xi, Xj, Xk, Xl, Xm, Xn, Xo, Xp, Xq, Xr, Xs, Xt, Xu, Xv, Xw, Xx, Xy, Xz, XA, XB, XD, XE, XF, XG, XH, XI, ev, XJ, upd, args1, args2, args3, args4, XK, XL, XM, extL, XN, XO, XP, XQ, XR, XT, XU, XV, XW, XX, XY, XZ, X0, X1, X2, X3, Addr.add, ↓reduceIte, Nat.reduceLT, Nat.reduceEqDiff, Nat.zero_add, Nat.reduceAdd, Option.map_some, X4, List.getElem_toArray, List.getElem_cons_zero, List.getElem_cons_succ, hf10, hw2]
                 refine hK _ ?_
                 clear hK K))
            refine t_done ?_
            refine t_inLoop ?_
            have r8 : Rel x O w O7 w8 := ((r5.trans r6).trans r7).mod md7 g8
            exact ih (l.length - (j + 1)) _ O7 w8 (by omega) ⟨r8, hf0, hf1, hf2, hf6, hf8, ((hv6.rely r6).rely r7).keep md7 hne, j + 1, some a, rfl, rfl, by omega, by rw [hstep, hs], rfl, v7⟩
  · have hd : decide ((j : Int) < (l.length : Int)) = false := by simp; omega
    repeat (first
      | (refine t_skG rfl (by decide) rfl ?_)
      | (refine t_skU rfl (by decide) rfl ?_)
      | (first | refine t_rdG (by decide) rfl (by decide) rfl (fun K hK => ?_) | refine t_rd (by decide) (fun K hK => ?_)
         simp only [Xa, Xb, Xc, Xd, Xe, Xf, Xg, Xh, Xi, Xj, Xk, Xl, Xm, Xn, Xo, Xp, Xq, Xr, Xs, Xt, Xu, Xv, Xw, Xx, Xy, Xz, XA, XB, XD, XE, XF, XG, XH, XI, ev, XJ, upd, args1, args2, args3, args4, XK, XL, XM, extL, XN, XO, XP, XQ, XR, XT, XU, XV, XW, XX, XY, XZ, X0, X1, X2, X3, Addr.add, ↓reduceIte, Nat.reduceLT, Nat.reduceEqDiff, Nat.zero_add, Nat.reduceAdd, Option.map_some, X4, List.getElem_toArray, List.getElem_cons_zero, List.getElem_cons_succ, hf0, hf10, hl, hd]
         refine hK _ ?_
         clear hK K))
    refine t_done ?_
    refine t_false rfl ?_
    refine t_exit rfl ?_
    have hql : getL l key seq = q := by rw [hq, List.take_of_length_le (by omega)]; rfl
    have lw := hv8.lw
    refine t_seq ?_
    refine t_region ?_
    iterate 2 (first
      | (refine t_skG rfl (by decide) rfl ?_)
      | (refine t_skU rfl (by decide) rfl ?_)
      | (first | refine t_rdG (by decide) rfl (by decide) rfl (fun K hK => ?_) | refine t_rd (by decide) (fun K hK => ?_)
         simp only [Xa, Xb, Xc, Xd, Xe, Xf, Xg, Xh, Xi, Xj, Xk, Xl, Xm, Xn, Xo, Xp, Xq, Xr, Xs, Xt, Xu, Xv, Xw, Xx, Xy, Xz, XA, XB, XD, XE, XF, XG, XH, XI, ev, XJ, upd, args1, args2, args3, args4, XK, XL, XM, extL, XN, XO, XP, XQ, XR, XT, XU, XV, XW, XX, XY, XZ, X0, X1, X2, X3, Addr.add, ↓reduceIte, Nat.reduceLT, Nat.reduceEqDiff, Nat.zero_add, Nat.reduceAdd, Option.map_some, X4, List.getElem_toArray, List.getElem_cons_zero, List.getElem_cons_succ, hf8, hf9, lw]
         refine hK _ ?_
         clear hK K))
    refine t_storeE (q := q.getD ent0) (by decide) (by simp only [Xa, Xb, Xc, Xd, Xe, Xf, Xg, Xh, Xi, Xj, Xk, Xl, Xm, Xn, Xo, Xp, Xq, Xr, Xs, Xt, Xu, Xv, Xw, Xx, Xy, Xz, XA, XB, XD, XE, XF, XG, XH, XI, ev, XJ, upd, args1, args2, args3, args4, XK, XL, XM, extL, XN, XO, XP, XQ, XR, XT, XU, XV, XW, XX, XY, XZ, X0, X1, X2, X3, Addr.add, ↓reduceIte, Nat.reduceLT, Nat.reduceEqDiff, Nat.zero_add, Nat.reduceAdd, Option.map_some, X4, List.getElem_toArray, List.getElem_cons_zero, List.getElem_cons_succ, hf6]) (by simp only [Xa, Xb, Xc, Xd, Xe, Xf, Xg, Xh, Xi, Xj, Xk, Xl, Xm, Xn, Xo, Xp, Xq, Xr, Xs, Xt, Xu, Xv, Xw, Xx, Xy, Xz, XA, XB, XD, XE, XF, XG, XH, XI, ev, XJ, upd, args1, args2, args3, args4, XK, XL, XM, extL, XN, XO, XP, XQ, XR, XT, XU, XV, XW, XX, XY, XZ, X0, X1, X2, X3, Addr.add, ↓reduceIte, Nat.reduceLT, Nat.reduceEqDiff, Nat.zero_add, Nat.reduceAdd, Option.map_some, X4, List.getElem_toArray, List.getElem_cons_zero, List.getElem_cons_succ]) hv6 ?_
    intro O7 w7 w8 r7 md7 v7
    repeat (first
      | (refine t_skG rfl (by decide) rfl ?_)
      | (refine t_skU rfl (by decide) rfl ?_)
      | (first | refine t_rdG (by decide) rfl (by decide) rfl (fun K hK => ?_) | refine t_rd (by decide) (fun K hK => ?_)
         simp only [Xa, Xb, Xc, Xd, Xe, Xf, Xg, Xh, Xi, Xj, Xk, Xl, Xm, Xn, Xo, Xp, Xq, Xr, Xs, Xt, Xu, Xv, Xw, Xx, Xy, Xz, XA, XB, XD, XE, XF, XG, XH, XI, ev, XJ, upd, args1, args2, args3, args4, XK, XL, XM, extL, XN, XO, XP, XQ, XR, XT, XU, XV, XW, XX, XY, XZ, X0, X1, X2, X3, Addr.add, ↓reduceIte, Nat.reduceLT, Nat.reduceEqDiff, Nat.zero_add, Nat.reduceAdd, Option.map_some, X4, List.getElem_toArray, List.getElem_cons_zero, List.getElem_cons_succ]
         refine hK _ ?_
         clear hK K))
    refine t_done ?_
    refine t_ret ?_
    refine t_leaveM rfl Try.func35 (res_cell37 (A := ⟨m6, 0, none⟩) (v := (q.getD ent0).v) rfl (by rw [mkT_getD]; exact hf6) (by rw [mkT_getD]; rfl) v7.lw) ?_
    have := h O7 w8 ((r5.trans r7).mod md7 g6)
    rw [hql] at this
    exact this
end Go.Proofs.Ytdajdembeacefaa.M
set_option linter.unusedSimpArgs false
set_option linter.unusedVariables false
namespace Go.Proofs.Ytdajdembeacefaa.M
open Go.Conc

theorem nm35 : ((Try.f35).name == "runtime.NumGoroutine") = false := by kernel_rfl
/-- What a list's place contributes. -/
def getV : Option Ent → List Pr
  | some e => if e.del then [] else [⟨e.key, e.val⟩]
  | none => []
def sameKey (l : List Ent) (j : Nat) (a : Ent) : Bool := decide (0 < j) && (match l[j - 1]? with | some b => b.key.toList == a.key.toList | none => false)
def refVisAt (l : List Ent) (seq : Int) (j : Nat) (a : Ent) : List Pr := if sameKey l j a then [] else getV (getL l a.key seq)
def sumUp {α : Type} (l : List Ent) (F : Nat → Ent → List α) : Nat → List α
  | 0 => []
  | j + 1 => sumUp l F j ++ (match l[j]? with | some a => F j a | none => [])
def refVisL (l : List Ent) (seq : Int) : List Pr := sumUp l (refVisAt l seq) l.length
theorem sumUp_step {α : Type} {l : List Ent} {F : Nat → Ent → List α} {j : Nat} {a : Ent} (h : l[j]? = some a) : sumUp l F (j + 1) = sumUp l F j ++ F j a := by
  rw [sumUp, h]
theorem sumUp_len {α : Type} {l : List Ent} {F : Nat → Ent → List α} (h : ∀ j a, (F j a).length ≤ 1) : ∀ j, (sumUp l F j).length ≤ j
  | 0 => Nat.le_refl _
  | j + 1 => by
    have := sumUp_len (l := l) h j
    rw [sumUp, List.length_append]
    cases l[j]? with
    | none => simp; omega
    | some a => have := h j a; simp only; omega
theorem refVisAt_len (l : List Ent) (seq : Int) (j : Nat) (a : Ent) : (refVisAt l seq j a).length ≤ 1 := by
  unfold refVisAt
  cases sameKey l j a with
  | true => simp
  | false =>
    cases getL l a.key seq with
    | none => simp [getV]
    | some u => simp only [getV]; cases u.del <;> simp

noncomputable def body21 : Code := (Try.f21).body.getD .skip
noncomputable def loop21 : Code := bodyB (tlC (hdC (tlC (tlC body21))))
set_option maxHeartbeats 4000000 in
theorem refVisible_M {x : Th} {St : Gh → Goroutine → World → Prop} (l : List Ent) (v : Value) (seq : Int) (O : Gh) (w : World) (c : Frame) (cs : List Frame) (hv : SlE (ldOf x O w) v l) (hlen : l.length < 100000)
    (h : ∀ O' w' m s, Rel x O w O' w' → Buf 2 x O' w' m s ((refVisL l seq).map Pr.cells) → Tree P x St O' (G (c.finish s) cs) w') :
    Tree P x St O (G (Frame.enter P 21 #[v, .int .i64 seq] .normal) (c :: cs)) w := by
  rw [enter2 _ _ Try.func21 rfl Try.ntmps21 (by decide)]
  refine t_seq ?_
  refine t_region ?_
  repeat (first
    | (refine t_skG rfl (by decide) rfl ?_)
    | (refine t_skU rfl (by decide) rfl ?_)
    | (first | refine t_rdG (by decide) rfl (by decide) rfl (fun K hK => ?_) | refine t_rd (by decide) (fun K hK => ?_)
       simp only [Xa, Xb, Xc, Xd, Xe, Xf, Xg, Xh, Xi, Xj, Xk, Xl, Xm, Xn, Xo, Xp, Xq, Xr, Xs, Xt, Xu, Xv, Xw, Xx, Xy, Xz, XA, XB, XD, XE, XF, XG, XH, XI, ev, XJ, upd, args1, args2, args3, args4, XK, XL, XM, extL, XN, XO, XP, XQ, XR, XT, XU, XV, XW, XX, XY, XZ, X0, X1, X2, X3, Addr.add, ↓reduceIte, Nat.reduceLT, Nat.reduceEqDiff, Nat.zero_add, Nat.reduceAdd, Option.map_some, X4, List.getElem_toArray, List.getElem_cons_zero, List.getElem_cons_succ]
       refine hK _ ?_
       clear hK K))
  refine t_done ?_
  refine t_seq ?_
  refine t_region ?_
  repeat (first
    | (refine t_skG rfl (by decide) rfl ?_)
    | (refine t_skU rfl (by decide) rfl ?_)
    | (first | refine t_rdG (by decide) rfl (by decide) rfl (fun K hK => ?_) | refine t_rd (by decide) (fun K hK => ?_)
       simp only [Xa, Xb, Xc, Xd, Xe, Xf, Xg, Xh, Xi, Xj, Xk, Xl, Xm, Xn, Xo, Xp, Xq, Xr, Xs, Xt, Xu, Xv, Xw, Xx, Xy, Xz, XA, XB, XD, XE, XF, XG, XH, XI, ev, XJ, upd, args1, args2, args3, args4, XK, XL, XM, extL, XN, XO, XP, XQ, XR, XT, XU, XV, XW, XX, XY, XZ, X0, X1, X2, X3, Addr.add, ↓reduceIte, Nat.reduceLT, Nat.reduceEqDiff, Nat.zero_add, Nat.reduceAdd, Option.map_some, X4, List.getElem_toArray, List.getElem_cons_zero, List.getElem_cons_succ]
       refine hK _ ?_
       clear hK K))
  refine t_done ?_
  refine t_seq ?_
  refine t_seq ?_
  refine t_region ?_
  repeat (first
    | (refine t_skG rfl (by decide) rfl ?_)
    | (refine t_skU rfl (by decide) rfl ?_)
    | (first | refine t_rdG (by decide) rfl (by decide) rfl (fun K hK => ?_) | refine t_rd (by decide) (fun K hK => ?_)
       simp only [Xa, Xb, Xc, Xd, Xe, Xf, Xg, Xh, Xi, Xj, Xk, Xl, Xm, Xn, Xo, Xp, Xq, Xr, Xs, Xt, Xu, Xv, Xw, Xx, Xy, Xz, XA, XB, XD, XE, XF, XG, XH, XI, ev, XJ, upd, args1, args2, args3, args4, XK, XL, XM, extL, XN, XO, XP, XQ, XR, XT, XU, XV, XW, XX, XY, XZ, X0, X1, X2, X3, Addr.add, ↓reduceIte, Nat.reduceLT, Nat.reduceEqDiff, Nat.zero_add, Nat.reduceAdd, Option.map_some, X4, List.getElem_toArray, List.getElem_cons_zero, List.getElem_cons_succ]
       refine hK _ ?_
       clear hK K))
  refine t_done ?_
  refine t_block ?_
  refine t_loop ?_
  refine t_while (fun m f O' w' => Rel x O w O' w' ∧ f 0 = v ∧ f 1 = .int .i64 seq ∧ ∃ (j mb : Nat) (s : Value), f 6 = .int .i64 (j : Int) ∧ f 5 = s ∧ m = l.length - j ∧ j ≤ l.length ∧ w.heap.size ≤ mb ∧ Buf 2 x O' w' mb s ((sumUp l (refVisAt l seq) j).map Pr.cells))
    l.length ⟨Rel.refl _ _ _, rfl, rfl, 0, w.heap.size, .slice none 0 0, rfl, rfl, rfl, Nat.zero_le _, Nat.le_refl _, Buf.nil _ _ _ _ _⟩ ?_
  rintro m f O1 w1 ⟨r1, hf0, hf1, j, mb, s, hf6, hf5, hm, hj, hmb, hbuf⟩ ih
  have hv1 := hv.rely r1
  have hl := hv1.len
  have hw2 : IntKind.i64.wrap ((j : Int) + 1) = ((j + 1 : Nat) : Int) := by rw [wrap64] <;> omega
  have hsl := sumUp_len (l := l) (refVisAt_len l seq) j
  refine t_seq ?_
  refine t_seq ?_
  refine t_region ?_
  by_cases hlt : j < l.length
  · have hd : decide ((j : Int) < (l.length : Int)) = true := decide_eq_true (by omega)
    have hej0 := List.getElem?_eq_getElem hlt
    generalize l[j] = a at hej0
    have hst := sumUp_step (F := refVisAt l seq) hej0
    obtain ⟨A, hA⟩ := hv1.at hej0
    have iA := hA.idx
    have fA := hA.f0
    repeat (first
      | (refine t_skG rfl (by decide) rfl ?_)
      | (refine t_skU rfl (by decide) rfl ?_)
      | (first | refine t_rdG (by decide) rfl (by decide) rfl (fun K hK => ?_) | refine t_rd (by decide) (fun K hK => ?_)
         simp only [Xa, Xb, Xc, Xd, Xe, Xf, Xg, Xh, Xi, Xj, Xk, Xl, Xm, Xn, Xo, Xp, Xq, Xr, Xs, Xt, Xu, Xv, Xw, Xx, Xy, Xz, XA, XB, XD, XE, XF, XG, XH, XI, ev, XJ, upd, args1, args2, args3, args4, XK, XL, XM, extL, XN, XO, XP, XQ, XR, XT, XU, XV, XW, XX, XY, XZ, X0, X1, X2, X3, Addr.add, ↓reduceIte, Nat.reduceLT, Nat.reduceEqDiff, Nat.zero_add, Nat.reduceAdd, Option.map_some, X4, List.getElem_toArray, List.getElem_cons_zero, List.getElem_cons_succ, hf0, hf6, hl, hd]
         refine hK _ ?_
         clear hK K))
    refine t_done ?_
    refine t_true rfl ?_
    refine t_skip ?_
    refine t_seq ?_
    refine t_block ?_
    -- on
    have goOn : ∀ (f : Nat → Value) (O2 : Gh) (w2 : World) (mb' : Nat) (s' : Value), Rel x O w O2 w2 → f 0 = v → f 1 = .int .i64 seq → f 6 = .int .i64 (j : Int) → f 5 = s' → w.heap.size ≤ mb' → Buf 2 x O2 w2 mb' s' ((sumUp l (refVisAt l seq) (j + 1)).map Pr.cells) →
        Tree P x St O2 (G (Fr (base 21) 57 f [] [.code (tlC (tlC loop21)), .inLoop loop21, .inBlock 0, .code (tlC (tlC (tlC body21)))]) (c :: cs)) w2 := by
      intro f O2 w2 mb' s' r2 g0 g1 g6 g5 hmb' hb'
      refine t_region ?_
      repeat (first
        | (refine t_skG rfl (by decide) rfl ?_)
        | (refine t_skU rfl (by decide) rfl ?_)
        | (first | refine t_rdG (by decide) rfl (by decide) rfl (fun K hK => ?_) | refine t_rd (by decide) (fun K hK => ?_)
           simp only [Xa, Xb, Xc, Xd, Xe, Xf, Xg, Xh, Xi, Xj, Xk, Xl, Xm, Xn, Xo, Xp, Xq, Xr, Xs, Xt, Xu, Xv, Xw, Xx, Xy, Xz, XA, XB, XD, XE, XF, XG, XH, XI, ev, XJ, upd, args1, args2, args3, args4, XK, XL, XM, extL, XN, XO, XP, XQ, XR, XT, XU, XV, XW, XX, XY, XZ, X0, X1, X2, X3, Addr.add, ↓reduceIte, Nat.reduceLT, Nat.reduceEqDiff, Nat.zero_add, Nat.reduceAdd, Option.map_some, X4, List.getElem_toArray, List.getElem_cons_zero, List.getElem_cons_succ, g6, hw2]
           refine hK _ ?_
           clear hK K))
      refine t_done ?_
      refine t_inLoop ?_
      exact ih (l.length - (j + 1)) _ O2 w2 (by omega) ⟨r2, g0, g1, j + 1, mb', s', rfl, g5, rfl, by omega, hmb', hb'⟩
    -- what follows a place that is not left out
    have goGet : ∀ (f : Nat → Value) (O1 : Gh) (w1 : World), Rel x O w O1 w1 → f 0 = v → f 1 = .int .i64 seq → f 6 = .int .i64 (j : Int) → f 5 = s → Buf 2 x O1 w1 mb s ((sumUp l (refVisAt l seq) j).map Pr.cells) →
        refVisAt l seq j a = getV (getL l a.key seq) →
        Tree P x St O1 (G (Fr (base 21) 57 f [] [.code (tlC (bodyB' (hdC (tlC loop21)))), .inBlock 1, .code (tlC (tlC loop21)), .inLoop loop21, .inBlock 0, .code (tlC (tlC (tlC body21)))]) (c :: cs)) w1 := by
      clear hf0 hf1 hf6 hf5 iA fA hA hbuf r1 hv1 hl
      intro f O1 w1 r1 hf0 hf1 hf6 hf5 hbuf hat
      rw [hat] at hst
      have hv1 := hv.rely r1
      obtain ⟨A, hA⟩ := hv1.at hej0
      have iA := hA.idx
      have fA := hA.f0
      refine t_seq ?_
      refine t_region ?_
      iterate 7 (first
        | (refine t_skG rfl (by decide) rfl ?_)
        | (refine t_skU rfl (by decide) rfl ?_)
        | (first | refine t_rdG (by decide) rfl (by decide) rfl (fun K hK => ?_) | refine t_rd (by decide) (fun K hK => ?_)
           simp only [Xa, Xb, Xc, Xd, Xe, Xf, Xg, Xh, Xi, Xj, Xk, Xl, Xm, Xn, Xo, Xp, Xq, Xr, Xs, Xt, Xu, Xv, Xw, Xx, Xy, Xz, XA, XB, XD, XE, XF, XG, XH, XI, ev, XJ, upd, args1, args2, args3, args4, XK, XL, XM, extL, XN, XO, XP, XQ, XR, XT, XU, XV, XW, XX, XY, XZ, X0, X1, X2, X3, Addr.add, ↓reduceIte, Nat.reduceLT, Nat.reduceEqDiff, Nat.zero_add, Nat.reduceAdd, Option.map_some, X4, List.getElem_toArray, List.getElem_cons_zero, List.getElem_cons_succ, hf0, hf1, hf6, iA, fA]
           refine hK _ ?_
           clear hK K))
      refine t_callA #[v, .string a.key, .int .i64 seq] (by decide) Try.func35 nm35 rfl (by simp only [List.map_toArray, List.map_cons, List.map_nil, Xa, Xb, Xc, Xd, Xe, Xf, Xg, Xh, Xi, Xj, Xk, Xl, Xm, Xn, Xo, Xp, Xq, Xr, Xs, Xt, Xu, Xv, Xw, Xx, Xy, Xz, XA, XB, XD, XE, XF, XG, XH, XI, ev, XJ, upd, args1, args2, args3, args4, XK, XL, XM, extL, XN, XO, XP, XQ, XR, XT, XU, XV, XW, XX, XY, XZ, X0, X1, X2, X3, Addr.add, ↓reduceIte, Nat.reduceLT, Nat.reduceEqDiff, Nat.zero_add, Nat.reduceAdd, Option.map_some, X4, List.getElem_toArray, List.getElem_cons_zero, List.getElem_cons_succ]) ?_
      intro c2 hret
      refine Get_M l v a.key seq O1 w1 c2 _ hv1 (by omega) fun O2 w2 r2 => hret _ O2 w2 ?_
      clear hret
      generalize hq : getL l a.key seq = q at hst
      have e0 : extL 0 (.tuple #[(q.getD ent0).v, .bool q.isSome]) = some (.value (q.getD ent0).v) := rfl
      have e1 : extL 1 (.tuple #[(q.getD ent0).v, .bool q.isSome]) = some (.value (.bool q.isSome)) := rfl
      iterate 3 (first
        | (refine t_skG rfl (by decide) rfl ?_)
        | (refine t_skU rfl (by decide) rfl ?_)
        | (first | refine t_rdG (by decide) rfl (by decide) rfl (fun K hK => ?_) | refine t_rd (by decide) (fun K hK => ?_)
           simp only [Xa, Xb, Xc, Xd, Xe, Xf, Xg, Xh, Xi, Xj, Xk, Xl, Xm, Xn, Xo, Xp, Xq, Xr, Xs, Xt, Xu, Xv, Xw, Xx, Xy, Xz, XA, XB, XD, XE, XF, XG, XH, XI, ev, XJ, upd, args1, args2, args3, args4, XK, XL, XM, extL, XN, XO, XP, XQ, XR, XT, XU, XV, XW, XX, XY, XZ, X0, X1, X2, X3, Addr.add, ↓reduceIte, Nat.reduceLT, Nat.reduceEqDiff, Nat.zero_add, Nat.reduceAdd, Option.map_some, X4, List.getElem_toArray, List.getElem_cons_zero, List.getElem_cons_succ, e0, e1]
           refine hK _ ?_
           clear hK K))
      refine t_allocE (by decide) ?_
      intro m7 O3 w3 r3 ge3 v3
      refine t_storeE (q := q.getD ent0) (by decide) (by simp only [Xa, Xb, Xc, Xd, Xe, Xf, Xg, Xh, Xi, Xj, Xk, Xl, Xm, Xn, Xo, Xp, Xq, Xr, Xs, Xt, Xu, Xv, Xw, Xx, Xy, Xz, XA, XB, XD, XE, XF, XG, XH, XI, ev, XJ, upd, args1, args2, args3, args4, XK, XL, XM, extL, XN, XO, XP, XQ, XR, XT, XU, XV, XW, XX, XY, XZ, X0, X1, X2, X3, Addr.add, ↓reduceIte, Nat.reduceLT, Nat.reduceEqDiff, Nat.zero_add, Nat.reduceAdd, Option.map_some, X4, List.getElem_toArray, List.getElem_cons_zero, List.getElem_cons_succ]) (by simp only [Xa, Xb, Xc, Xd, Xe, Xf, Xg, Xh, Xi, Xj, Xk, Xl, Xm, Xn, Xo, Xp, Xq, Xr, Xs, Xt, Xu, Xv, Xw, Xx, Xy, Xz, XA, XB, XD, XE, XF, XG, XH, XI, ev, XJ, upd, args1, args2, args3, args4, XK, XL, XM, extL, XN, XO, XP, XQ, XR, XT, XU, XV, XW, XX, XY, XZ, X0, X1, X2, X3, Addr.add, ↓reduceIte, Nat.reduceLT, Nat.reduceEqDiff, Nat.zero_add, Nat.reduceAdd, Option.map_some, X4, List.getElem_toArray, List.getElem_cons_zero, List.getElem_cons_succ]) v3 ?_
      intro O4 w4 w5 r4 md4 v5
      repeat (first
        | (refine t_skG rfl (by decide) rfl ?_)
        | (refine t_skU rfl (by decide) rfl ?_)
        | (first | refine t_rdG (by decide) rfl (by decide) rfl (fun K hK => ?_) | refine t_rd (by decide) (fun K hK => ?_)
           simp only [Xa, Xb, Xc, Xd, Xe, Xf, Xg, Xh, Xi, Xj, Xk, Xl, Xm, Xn, Xo, Xp, Xq, Xr, Xs, Xt, Xu, Xv, Xw, Xx, Xy, Xz, XA, XB, XD, XE, XF, XG, XH, XI, ev, XJ, upd, args1, args2, args3, args4, XK, XL, XM, extL, XN, XO, XP, XQ, XR, XT, XU, XV, XW, XX, XY, XZ, X0, X1, X2, X3, Addr.add, ↓reduceIte, Nat.reduceLT, Nat.reduceEqDiff, Nat.zero_add, Nat.reduceAdd, Option.map_some, X4, List.getElem_toArray, List.getElem_cons_zero, List.getElem_cons_succ]
           refine hK _ ?_
           clear hK K))
      refine t_done ?_
      have r5' : Rel x O1 w1 O4 w5 := ((r2.trans r3).trans r4).mod md4 (by have := r2.size; omega)
      have r5 := r1.trans r5'
      have hbuf5 := hbuf.rely r5'
      have d0 := v5.l0
      have d2 := v5.l2
      have d3 := v5.l3
      refine t_seq ?_
      refine t_region ?_
      cases q with
      | none =>
        repeat (first
          | (refine t_skG rfl (by decide) rfl ?_)
          | (refine t_skU rfl (by decide) rfl ?_)
          | (first | refine t_rdG (by decide) rfl (by decide) rfl (fun K hK => ?_) | refine t_rd (by decide) (fun K hK => ?_)
             simp only [Xa, Xb, Xc, Xd, Xe, Xf, Xg, Xh, Xi, Xj, Xk, Xl, Xm, Xn, Xo, Xp, Xq, Xr, Xs, Xt, Xu, Xv, Xw, Xx, Xy, Xz, XA, XB, XD, XE, XF, XG, XH, XI, ev, XJ, upd, args1, args2, args3, args4, XK, XL, XM, extL, XN, XO, XP, XQ, XR, XT, XU, XV, XW, XX, XY, XZ, X0, X1, X2, X3, Addr.add, ↓reduceIte, Nat.reduceLT, Nat.reduceEqDiff, Nat.zero_add, Nat.reduceAdd, Option.map_some, X4, List.getElem_toArray, List.getElem_cons_zero, List.getElem_cons_succ]
             refine hK _ ?_
             clear hK K))
        refine t_done ?_
        refine t_false (by first | (simp only [Xa, Xb, Xc, Xd, Xe, Xf, Xg, Xh, Xi, Xj, Xk, Xl, Xm, Xn, Xo, Xp, Xq, Xr, Xs, Xt, Xu, Xv, Xw, Xx, Xy, Xz, XA, XB, XD, XE, XF, XG, XH, XI, ev, XJ, upd, args1, args2, args3, args4, XK, XL, XM, extL, XN, XO, XP, XQ, XR, XT, XU, XV, XW, XX, XY, XZ, X0, X1, X2, X3, Addr.add, ↓reduceIte, Nat.reduceLT, Nat.reduceEqDiff, Nat.zero_add, Nat.reduceAdd, Option.map_some, X4, List.getElem_toArray, List.getElem_cons_zero, List.getElem_cons_succ]; done) | (simp only [Xa, Xb, Xc, Xd, Xe, Xf, Xg, Xh, Xi, Xj, Xk, Xl, Xm, Xn, Xo, Xp, Xq, Xr, Xs, Xt, Xu, Xv, Xw, Xx, Xy, Xz, XA, XB, XD, XE, XF, XG, XH, XI, ev, XJ, upd, args1, args2, args3, args4, XK, XL, XM, extL, XN, XO, XP, XQ, XR, XT, XU, XV, XW, XX, XY, XZ, X0, X1, X2, X3, Addr.add, ↓reduceIte, Nat.reduceLT, Nat.reduceEqDiff, Nat.zero_add, Nat.reduceAdd, Option.map_some, X4, List.getElem_toArray, List.getElem_cons_zero, List.getElem_cons_succ]; rfl)) ?_
        refine t_skip ?_
        refine t_inBlock ?_
        simp only [getV, List.append_nil] at hst
        exact goOn _ O4 w5 mb s r5 hf0 hf1 hf6 hf5 hmb (by rw [hst]; exact hbuf5)
      | some u =>
        simp only [Option.getD_some] at d0 d2 d3
        simp only [getV] at hst
        have q1 : (some u).isSome = true := rfl
        cases hdl : u.del with
        | true =>
          rw [hdl] at d2 hst
          repeat (first
            | (refine t_skG rfl (by decide) rfl ?_)
            | (refine t_skU rfl (by decide) rfl ?_)
            | (first | refine t_rdG (by decide) rfl (by decide) rfl (fun K hK => ?_) | refine t_rd (by decide) (fun K hK => ?_)
               simp only [Xa, Xb, Xc, Xd, Xe, Xf, Xg, Xh, Xi, Xj, Xk, Xl, Xm, Xn, Xo, Xp, Xq, Xr, Xs, Xt, Xu, Xv, Xw, Xx, Xy, Xz, XA, XB, XD, XE, XF, XG, XH, XI, ev, XJ, upd, args1, args2, args3, args4, XK, XL, XM, extL, XN, XO, XP, XQ, XR, XT, XU, XV, XW, XX, XY, XZ, X0, X1, X2, X3, Addr.add, ↓reduceIte, Nat.reduceLT, Nat.reduceEqDiff, Nat.zero_add, Nat.reduceAdd, Option.map_some, X4, List.getElem_toArray, List.getElem_cons_zero, List.getElem_cons_succ, q1, d2]
               refine hK _ ?_
               clear hK K))
          refine t_done ?_
          refine t_false (by first | (simp only [Xa, Xb, Xc, Xd, Xe, Xf, Xg, Xh, Xi, Xj, Xk, Xl, Xm, Xn, Xo, Xp, Xq, Xr, Xs, Xt, Xu, Xv, Xw, Xx, Xy, Xz, XA, XB, XD, XE, XF, XG, XH, XI, ev, XJ, upd, args1, args2, args3, args4, XK, XL, XM, extL, XN, XO, XP, XQ, XR, XT, XU, XV, XW, XX, XY, XZ, X0, X1, X2, X3, Addr.add, ↓reduceIte, Nat.reduceLT, Nat.reduceEqDiff, Nat.zero_add, Nat.reduceAdd, Option.map_some, X4, List.getElem_toArray, List.getElem_cons_zero, List.getElem_cons_succ]; done) | (simp only [Xa, Xb, Xc, Xd, Xe, Xf, Xg, Xh, Xi, Xj, Xk, Xl, Xm, Xn, Xo, Xp, Xq, Xr, Xs, Xt, Xu, Xv, Xw, Xx, Xy, Xz, XA, XB, XD, XE, XF, XG, XH, XI, ev, XJ, upd, args1, args2, args3, args4, XK, XL, XM, extL, XN, XO, XP, XQ, XR, XT, XU, XV, XW, XX, XY, XZ, X0, X1, X2, X3, Addr.add, ↓reduceIte, Nat.reduceLT, Nat.reduceEqDiff, Nat.zero_add, Nat.reduceAdd, Option.map_some, X4, List.getElem_toArray, List.getElem_cons_zero, List.getElem_cons_succ]; rfl)) ?_
          refine t_skip ?_
          refine t_inBlock ?_
          simp only [if_true, List.append_nil] at hst
          exact goOn _ O4 w5 mb s r5 hf0 hf1 hf6 hf5 hmb (by rw [hst]; exact hbuf5)
        | false =>
          rw [hdl] at d2 hst
          simp only [Bool.false_eq_true, if_false] at hst
          repeat (first
            | (refine t_skG rfl (by decide) rfl ?_)
            | (refine t_skU rfl (by decide) rfl ?_)
            | (first | refine t_rdG (by decide) rfl (by decide) rfl (fun K hK => ?_) | refine t_rd (by decide) (fun K hK => ?_)
               simp only [Xa, Xb, Xc, Xd, Xe, Xf, Xg, Xh, Xi, Xj, Xk, Xl, Xm, Xn, Xo, Xp, Xq, Xr, Xs, Xt, Xu, Xv, Xw, Xx, Xy, Xz, XA, XB, XD, XE, XF, XG, XH, XI, ev, XJ, upd, args1, args2, args3, args4, XK, XL, XM, extL, XN, XO, XP, XQ, XR, XT, XU, XV, XW, XX, XY, XZ, X0, X1, X2, X3, Addr.add, ↓reduceIte, Nat.reduceLT, Nat.reduceEqDiff, Nat.zero_add, Nat.reduceAdd, Option.map_some, X4, List.getElem_toArray, List.getElem_cons_zero, List.getElem_cons_succ, q1, d2]
               refine hK _ ?_
               clear hK K))
          refine t_done ?_
          refine t_true (by first | (simp only [Xa, Xb, Xc, Xd, Xe, Xf, Xg, Xh, Xi, Xj, Xk, Xl, Xm, Xn, Xo, Xp, Xq, Xr, Xs, Xt, Xu, Xv, Xw, Xx, Xy, Xz, XA, XB, XD, XE, XF, XG, XH, XI, ev, XJ, upd, args1, args2, args3, args4, XK, XL, XM, extL, XN, XO, XP, XQ, XR, XT, XU, XV, XW, XX, XY, XZ, X0, X1, X2, X3, Addr.add, ↓reduceIte, Nat.reduceLT, Nat.reduceEqDiff, Nat.zero_add, Nat.reduceAdd, Option.map_some, X4, List.getElem_toArray, List.getElem_cons_zero, List.getElem_cons_succ]; done) | (simp only [Xa, Xb, Xc, Xd, Xe, Xf, Xg, Xh, Xi, Xj, Xk, Xl, Xm, Xn, Xo, Xp, Xq, Xr, Xs, Xt, Xu, Xv, Xw, Xx, Xy, Xz, XA, XB, XD, XE, XF, XG, XH, XI, ev, XJ, upd, args1, args2, args3, args4, XK, XL, XM, extL, XN, XO, XP, XQ, XR, XT, XU, XV, XW, XX, XY, XZ, X0, X1, X2, X3, Addr.add, ↓reduceIte, Nat.reduceLT, Nat.reduceEqDiff, Nat.zero_add, Nat.reduceAdd, Option.map_some, X4, List.getElem_toArray, List.getElem_cons_zero, List.getElem_cons_succ]; rfl)) ?_
          refine t_region ?_
          iterate 5 (first
            | (refine t_skG rfl (by decide) rfl ?_)
            | (refine t_skU rfl (by decide) rfl ?_)
            | (first | refine t_rdG (by decide) rfl (by decide) rfl (fun K hK => ?_) | refine t_rd (by decide) (fun K hK => ?_)
               simp only [Xa, Xb, Xc, Xd, Xe, Xf, Xg, Xh, Xi, Xj, Xk, Xl, Xm, Xn, Xo, Xp, Xq, Xr, Xs, Xt, Xu, Xv, Xw, Xx, Xy, Xz, XA, XB, XD, XE, XF, XG, XH, XI, ev, XJ, upd, args1, args2, args3, args4, XK, XL, XM, extL, XN, XO, XP, XQ, XR, XT, XU, XV, XW, XX, XY, XZ, X0, X1, X2, X3, Addr.add, ↓reduceIte, Nat.reduceLT, Nat.reduceEqDiff, Nat.zero_add, Nat.reduceAdd, Option.map_some, X4, List.getElem_toArray, List.getElem_cons_zero, List.getElem_cons_succ, hf5, d0, d3]
               refine hK _ ?_
               clear hK K))
          refine t_val (by decide) (x_build50 (a := u.key) (b := u.val) _ _ (by simp only [Xa, Xb, Xc, Xd, Xe, Xf, Xg, Xh, Xi, Xj, Xk, Xl, Xm, Xn, Xo, Xp, Xq, Xr, Xs, Xt, Xu, Xv, Xw, Xx, Xy, Xz, XA, XB, XD, XE, XF, XG, XH, XI, ev, XJ, upd, args1, args2, args3, args4, XK, XL, XM, extL, XN, XO, XP, XQ, XR, XT, XU, XV, XW, XX, XY, XZ, X0, X1, X2, X3, Addr.add, ↓reduceIte, Nat.reduceLT, Nat.reduceEqDiff, Nat.zero_add, Nat.reduceAdd, Option.map_some, X4, List.getElem_toArray, List.getElem_cons_zero, List.getElem_cons_succ]) (by simp only [Xa, Xb, Xc, Xd, Xe, Xf, Xg, Xh, Xi, Xj, Xk, Xl, Xm, Xn, Xo, Xp, Xq, Xr, Xs, Xt, Xu, Xv, Xw, Xx, Xy, Xz, XA, XB, XD, XE, XF, XG, XH, XI, ev, XJ, upd, args1, args2, args3, args4, XK, XL, XM, extL, XN, XO, XP, XQ, XR, XT, XU, XV, XW, XX, XY, XZ, X0, X1, X2, X3, Addr.add, ↓reduceIte, Nat.reduceLT, Nat.reduceEqDiff, Nat.zero_add, Nat.reduceAdd, Option.map_some, X4, List.getElem_toArray, List.getElem_cons_zero, List.getElem_cons_succ])) ?_
          refine t_buildSlice (sz := 2) (cells := Pr.cells ⟨u.key, u.val⟩) (pv := #[(0, Pr.v ⟨u.key, u.val⟩)]) Try.underlying39 rfl (by decide) zero50 (by decide) (by simp only [List.map_toArray, List.map_cons, List.map_nil, Xa, Xb, Xc, Xd, Xe, Xf, Xg, Xh, Xi, Xj, Xk, Xl, Xm, Xn, Xo, Xp, Xq, Xr, Xs, Xt, Xu, Xv, Xw, Xx, Xy, Xz, XA, XB, XD, XE, XF, XG, XH, XI, ev, XJ, upd, args1, args2, args3, args4, XK, XL, XM, extL, XN, XO, XP, XQ, XR, XT, XU, XV, XW, XX, XY, XZ, X0, X1, X2, X3, Addr.add, ↓reduceIte, Nat.reduceLT, Nat.reduceEqDiff, Nat.zero_add, Nat.reduceAdd, Option.map_some, X4, List.getElem_toArray, List.getElem_cons_zero, List.getElem_cons_succ]) (fun c0 h0 => by
            rw [fill_one (off := 0) (sz := 2) rfl rfl (by simp at h0; omega), Instr.fill]
            have : c0.toList.drop 2 = [] := List.drop_eq_nil_iff.2 (by simp; omega)
            simp [this, Value.cells, Pr.v]) ?_
          intro mq Oq wq hq
          have hsq : Sl 2 (ldOf x Oq wq) (.slice (some ⟨mq, 0, none⟩) 1 1) [Pr.cells ⟨u.key, u.val⟩] := hq.one
          refine t_append Try.underlying39 rfl rfl rfl (by decide) (by decide) (by decide) zero50 rfl (by decide) rfl rfl (hbuf5.rely hq.rel) hsq (by simp; omega) (fun a ha => prcells_ok [⟨u.key, u.val⟩] a (by simpa using ha)) ?_
          intro Or wr m' s' Ot wt rr hmt hbuft hmm
          repeat (first
            | (refine t_skG rfl (by decide) rfl ?_)
            | (refine t_skU rfl (by decide) rfl ?_)
            | (first | refine t_rdG (by decide) rfl (by decide) rfl (fun K hK => ?_) | refine t_rd (by decide) (fun K hK => ?_)
               simp only [Xa, Xb, Xc, Xd, Xe, Xf, Xg, Xh, Xi, Xj, Xk, Xl, Xm, Xn, Xo, Xp, Xq, Xr, Xs, Xt, Xu, Xv, Xw, Xx, Xy, Xz, XA, XB, XD, XE, XF, XG, XH, XI, ev, XJ, upd, args1, args2, args3, args4, XK, XL, XM, extL, XN, XO, XP, XQ, XR, XT, XU, XV, XW, XX, XY, XZ, X0, X1, X2, X3, Addr.add, ↓reduceIte, Nat.reduceLT, Nat.reduceEqDiff, Nat.zero_add, Nat.reduceAdd, Option.map_some, X4, List.getElem_toArray, List.getElem_cons_zero, List.getElem_cons_succ]
               refine hK _ ?_
               clear hK K))
          refine t_done ?_
          have rqr := (r5.trans hq.rel).trans rr
          refine t_inBlock ?_
          refine goOn _ Ot wt m' s' (rqr.mod hmt hmb) hf0 hf1 hf6 rfl ?_ (by rw [hst, List.map_append]; exact hbuft)
          rcases hmm with rfl | ⟨hmm, _⟩
          · exact hmb
          · exact Nat.le_trans rqr.size hmm
    refine t_seq ?_
    refine t_seq ?_
    refine t_drawn rfl (by decide) ?_
    by_cases hj0 : j = 0
    · subst hj0
      have hd0 : decide ((0 : Int) < ((0 : Nat) : Int)) = false := by decide
      repeat (first
        | (refine d_skG rfl (by decide) rfl ?_)
        | (refine d_skU rfl (by decide) rfl ?_)
        | (first | refine d_rdG rfl (by decide) rfl (fun K hK => ?_) | refine d_rd (fun K hK => ?_)
           simp only [Xa, Xb, Xc, Xd, Xe, Xf, Xg, Xh, Xi, Xj, Xk, Xl, Xm, Xn, Xo, Xp, Xq, Xr, Xs, Xt, Xu, Xv, Xw, Xx, Xy, Xz, XA, XB, XD, XE, XF, XG, XH, XI, ev, XJ, upd, args1, args2, args3, args4, XK, XL, XM, extL, XN, XO, XP, XQ, XR, XT, XU, XV, XW, XX, XY, XZ, X0, X1, X2, X3, Addr.add, ↓reduceIte, Nat.reduceLT, Nat.reduceEqDiff, Nat.zero_add, Nat.reduceAdd, Option.map_some, X4, List.getElem_toArray, List.getElem_cons_zero, List.getElem_cons_succ, hf6, hd0]
           refine hK _ ?_
           clear hK K))
      refine d_done ?_
      intro O2 w2 r2
      refine t_false (by first | (simp only [Xa, Xb, Xc, Xd, Xe, Xf, Xg, Xh, Xi, Xj, Xk, Xl, Xm, Xn, Xo, Xp, Xq, Xr, Xs, Xt, Xu, Xv, Xw, Xx, Xy, Xz, XA, XB, XD, XE, XF, XG, XH, XI, ev, XJ, upd, args1, args2, args3, args4, XK, XL, XM, extL, XN, XO, XP, XQ, XR, XT, XU, XV, XW, XX, XY, XZ, X0, X1, X2, X3, Addr.add, ↓reduceIte, Nat.reduceLT, Nat.reduceEqDiff, Nat.zero_add, Nat.reduceAdd, Option.map_some, X4, List.getElem_toArray, List.getElem_cons_zero, List.getElem_cons_succ]; done) | (simp only [Xa, Xb, Xc, Xd, Xe, Xf, Xg, Xh, Xi, Xj, Xk, Xl, Xm, Xn, Xo, Xp, Xq, Xr, Xs, Xt, Xu, Xv, Xw, Xx, Xy, Xz, XA, XB, XD, XE, XF, XG, XH, XI, ev, XJ, upd, args1, args2, args3, args4, XK, XL, XM, extL, XN, XO, XP, XQ, XR, XT, XU, XV, XW, XX, XY, XZ, X0, X1, X2, X3, Addr.add, ↓reduceIte, Nat.reduceLT, Nat.reduceEqDiff, Nat.zero_add, Nat.reduceAdd, Option.map_some, X4, List.getElem_toArray, List.getElem_cons_zero, List.getElem_cons_succ]; rfl)) ?_
      refine t_skip ?_
      exact goGet _ O2 w2 (r1.trans r2) hf0 hf1 hf6 hf5 (hbuf.rely r2) rfl
    · obtain ⟨j', rfl⟩ : ∃ j', j = j' + 1 := ⟨j - 1, by omega⟩
      have hd0 : decide ((0 : Int) < ((j' + 1 : Nat) : Int)) = true := decide_eq_true (by omega)
      have hw1 : IntKind.i64.wrap (((j' + 1 : Nat) : Int) - 1) = (j' : Int) := by rw [wrap64] <;> omega
      have hej1 := List.getElem?_eq_getElem (show j' < l.length by omega)
      generalize l[j'] = b at hej1
      obtain ⟨B, hB⟩ := hv1.at hej1
      have iB := hB.idx
      have fB := hB.f0
      have hpre : (match l[j' + 1 - 1]? with | some b => b.key.toList == a.key.toList | none => false) = (b.key.toList == a.key.toList) := by rw [Nat.add_sub_cancel, hej1]
      cases hk : (b.key.toList == a.key.toList) with
      | true =>
        have hat : refVisAt l seq (j' + 1) a = [] := by unfold refVisAt sameKey; rw [hpre, hk]; simp
        repeat (first
          | (refine d_skG rfl (by decide) rfl ?_)
          | (refine d_skU rfl (by decide) rfl ?_)
          | (first | refine d_rdG rfl (by decide) rfl (fun K hK => ?_) | refine d_rd (fun K hK => ?_)
             simp only [Xa, Xb, Xc, Xd, Xe, Xf, Xg, Xh, Xi, Xj, Xk, Xl, Xm, Xn, Xo, Xp, Xq, Xr, Xs, Xt, Xu, Xv, Xw, Xx, Xy, Xz, XA, XB, XD, XE, XF, XG, XH, XI, ev, XJ, upd, args1, args2, args3, args4, XK, XL, XM, extL, XN, XO, XP, XQ, XR, XT, XU, XV, XW, XX, XY, XZ, X0, X1, X2, X3, Addr.add, ↓reduceIte, Nat.reduceLT, Nat.reduceEqDiff, Nat.zero_add, Nat.reduceAdd, Option.map_some, X4, List.getElem_toArray, List.getElem_cons_zero, List.getElem_cons_succ, hf0, hf6, hd0, hw1, iA, fA, iB, fB, hk]
             refine hK _ ?_
             clear hK K))
        refine d_done ?_
        intro O2 w2 r2
        refine t_true (by first | (simp only [Xa, Xb, Xc, Xd, Xe, Xf, Xg, Xh, Xi, Xj, Xk, Xl, Xm, Xn, Xo, Xp, Xq, Xr, Xs, Xt, Xu, Xv, Xw, Xx, Xy, Xz, XA, XB, XD, XE, XF, XG, XH, XI, ev, XJ, upd, args1, args2, args3, args4, XK, XL, XM, extL, XN, XO, XP, XQ, XR, XT, XU, XV, XW, XX, XY, XZ, X0, X1, X2, X3, Addr.add, ↓reduceIte, Nat.reduceLT, Nat.reduceEqDiff, Nat.zero_add, Nat.reduceAdd, Option.map_some, X4, List.getElem_toArray, List.getElem_cons_zero, List.getElem_cons_succ]; done) | (simp only [Xa, Xb, Xc, Xd, Xe, Xf, Xg, Xh, Xi, Xj, Xk, Xl, Xm, Xn, Xo, Xp, Xq, Xr, Xs, Xt, Xu, Xv, Xw, Xx, Xy, Xz, XA, XB, XD, XE, XF, XG, XH, XI, ev, XJ, upd, args1, args2, args3, args4, XK, XL, XM, extL, XN, XO, XP, XQ, XR, XT, XU, XV, XW, XX, XY, XZ, X0, X1, X2, X3, Addr.add, ↓reduceIte, Nat.reduceLT, Nat.reduceEqDiff, Nat.zero_add, Nat.reduceAdd, Option.map_some, X4, List.getElem_toArray, List.getElem_cons_zero, List.getElem_cons_succ]; rfl)) ?_
        refine t_exit rfl ?_
        rw [hat, List.append_nil] at hst
        exact goOn _ O2 w2 mb s (r1.trans r2) hf0 hf1 hf6 hf5 hmb (by rw [hst]; exact hbuf.rely r2)
      | false =>
        have hat : refVisAt l seq (j' + 1) a = getV (getL l a.key seq) := by unfold refVisAt sameKey; rw [hpre, hk]; simp
        repeat (first
          | (refine d_skG rfl (by decide) rfl ?_)
          | (refine d_skU rfl (by decide) rfl ?_)
          | (first | refine d_rdG rfl (by decide) rfl (fun K hK => ?_) | refine d_rd (fun K hK => ?_)
             simp only [Xa, Xb, Xc, Xd, Xe, Xf, Xg, Xh, Xi, Xj, Xk, Xl, Xm, Xn, Xo, Xp, Xq, Xr, Xs, Xt, Xu, Xv, Xw, Xx, Xy, Xz, XA, XB, XD, XE, XF, XG, XH, XI, ev, XJ, upd, args1, args2, args3, args4, XK, XL, XM, extL, XN, XO, XP, XQ, XR, XT, XU, XV, XW, XX, XY, XZ, X0, X1, X2, X3, Addr.add, ↓reduceIte, Nat.reduceLT, Nat.reduceEqDiff, Nat.zero_add, Nat.reduceAdd, Option.map_some, X4, List.getElem_toArray, List.getElem_cons_zero, List.getElem_cons_succ, hf0, hf6, hd0, hw1, iA, fA, iB, fB, hk]
             refine hK _ ?_
             clear hK K))
        refine d_done ?_
        intro O2 w2 r2
        refine t_false (by first | (simp only [Xa, Xb, Xc, Xd, Xe, Xf, Xg, Xh, Xi, Xj, Xk, Xl, Xm, Xn, Xo, Xp, Xq, Xr, Xs, Xt, Xu, Xv, Xw, Xx, Xy, Xz, XA, XB, XD, XE, XF, XG, XH, XI, ev, XJ, upd, args1, args2, args3, args4, XK, XL, XM, extL, XN, XO, XP, XQ, XR, XT, XU, XV, XW, XX, XY, XZ, X0, X1, X2, X3, Addr.add, ↓reduceIte, Nat.reduceLT, Nat.reduceEqDiff, Nat.zero_add, Nat.reduceAdd, Option.map_some, X4, List.getElem_toArray, List.getElem_cons_zero, List.getElem_cons_succ]; done) | (simp only [Xa, Xb, Xc, Xd, Xe, Xf, Xg, Xh, Xi, Xj, Xk, Xl, Xm, Xn, Xo, Xp, Xq, Xr, Xs, Xt, Xu, Xv, Xw, Xx, Xy, Xz, XA, XB, XD, XE, XF, XG, XH, XI, ev, XJ, upd, args1, args2, args3, args4, XK, XL, XM, extL, XN, XO, XP, XQ, XR, XT, XU, XV, XW, XX, XY, XZ, X0, X1, X2, X3, Addr.add, ↓reduceIte, Nat.reduceLT, Nat.reduceEqDiff, Nat.zero_add, Nat.reduceAdd, Option.map_some, X4, List.getElem_toArray, List.getElem_cons_zero, List.getElem_cons_succ]; rfl)) ?_
        refine t_skip ?_
        exact goGet _ O2 w2 (r1.trans r2) hf0 hf1 hf6 hf5 (hbuf.rely r2) hat
  · have hd : decide ((j : Int) < (l.length : Int)) = false := decide_eq_false (by omega)
    repeat (first
      | (refine t_skG rfl (by decide) rfl ?_)
      | (refine t_skU rfl (by decide) rfl ?_)
      | (first | refine t_rdG (by decide) rfl (by decide) rfl (fun K hK => ?_) | refine t_rd (by decide) (fun K hK => ?_)
         simp only [Xa, Xb, Xc, Xd, Xe, Xf, Xg, Xh, Xi, Xj, Xk, Xl, Xm, Xn, Xo, Xp, Xq, Xr, Xs, Xt, Xu, Xv, Xw, Xx, Xy, Xz, XA, XB, XD, XE, XF, XG, XH, XI, ev, XJ, upd, args1, args2, args3, args4, XK, XL, XM, extL, XN, XO, XP, XQ, XR, XT, XU, XV, XW, XX, XY, XZ, X0, X1, X2, X3, Addr.add, ↓reduceIte, Nat.reduceLT, Nat.reduceEqDiff, Nat.zero_add, Nat.reduceAdd, Option.map_some, X4, List.getElem_toArray, List.getElem_cons_zero, List.getElem_cons_succ, hf0, hf6, hl, hd]
         refine hK _ ?_
         clear hK K))
    refine t_done ?_
    refine t_false rfl ?_
    refine t_exit rfl ?_
    refine t_seq ?_
    refine t_region ?_
    repeat (first
      | (refine t_skG rfl (by decide) rfl ?_)
      | (refine t_skU rfl (by decide) rfl ?_)
      | (first | refine t_rdG (by decide) rfl (by decide) rfl (fun K hK => ?_) | refine t_rd (by decide) (fun K hK => ?_)
         simp only [Xa, Xb, Xc, Xd, Xe, Xf, Xg, Xh, Xi, Xj, Xk, Xl, Xm, Xn, Xo, Xp, Xq, Xr, Xs, Xt, Xu, Xv, Xw, Xx, Xy, Xz, XA, XB, XD, XE, XF, XG, XH, XI, ev, XJ, upd, args1, args2, args3, args4, XK, XL, XM, extL, XN, XO, XP, XQ, XR, XT, XU, XV, XW, XX, XY, XZ, X0, X1, X2, X3, Addr.add, ↓reduceIte, Nat.reduceLT, Nat.reduceEqDiff, Nat.zero_add, Nat.reduceAdd, Option.map_some, X4, List.getElem_toArray, List.getElem_cons_zero, List.getElem_cons_succ, hf5]
         refine hK _ ?_
         clear hK K))
    refine t_done ?_
    refine t_ret ?_
    refine t_leave1 rfl Try.func21 Try.results21 ?_
    have : j = l.length := by omega
    subst this
    exact h O1 w1 mb s r1 hbuf
end Go.Proofs.Ytdajdembeacefaa.M
set_option linter.unusedSimpArgs false
set_option linter.unusedVariables false
namespace Go.Proofs.Ytdajdembeacefaa.M
open Go.Conc

def keepOk (q : Option Ent) (bottom : Bool) (a : Ent) : Bool := match q with
  | some u => (u.seq == a.seq) && !(bottom && a.del)
  | none => false
def keepAt (l : List Ent) (floor : Int) (bottom : Bool) (a : Ent) : Bool := decide (floor < a.seq) || keepOk (getL l a.key floor) bottom a
def refCompL (l : List Ent) (floor : Int) (bottom : Bool) : List Ent := l.filter (keepAt l floor bottom)
theorem filter_step {l : List Ent} {F : Ent → Bool} {j : Nat} {a : Ent} (h : l[j]? = some a) : (l.take (j + 1)).filter F = (l.take j).filter F ++ (if F a then [a] else []) := by
  rw [List.take_add_one, h, List.filter_append]
  cases hf : F a <;> simp [hf]

noncomputable def body22 : Code := (Try.f22).body.getD .skip
noncomputable def loop22 : Code := bodyB (tlC (hdC (tlC (tlC body22))))
set_option maxHeartbeats 4000000 in
theorem refCompact_M {x : Th} {St : Gh → Goroutine → World → Prop} (l : List Ent) (v : Value) (floor : Int) (bottom : Bool) (O : Gh) (w : World) (c : Frame) (cs : List Frame) (hv : SlE (ldOf x O w) v l) (hlen : l.length < 100000)
    (h : ∀ O' w' m s, Rel x O w O' w' → Buf 4 x O' w' m s ((refCompL l floor bottom).map Ent.cells) → Tree P x St O' (G (c.finish s) cs) w') :
    Tree P x St O (G (Frame.enter P 22 #[v, .int .i64 floor, .bool bottom] .normal) (c :: cs)) w := by
  rw [enter3 _ _ _ Try.func22 rfl Try.ntmps22 (by decide)]
  refine t_seq ?_
  refine t_region ?_
  repeat (first
    | (refine t_skG rfl (by decide) rfl ?_)
    | (refine t_skU rfl (by decide) rfl ?_)
    | (first | refine t_rdG (by decide) rfl (by decide) rfl (fun K hK => ?_) | refine t_rd (by decide) (fun K hK => ?_)
       simp only [Xa, Xb, Xc, Xd, Xe, Xf, Xg, Xh, Xi, Xj, Xk, Xl, Xm, Xn, Xo, Xp, Xq, Xr, Xs, Xt, Xu, Xv, Xw, Xx, Xy, Xz, XA, XB, XD, XE, XF, XG, XH, XI, ev, XJ, upd, args1, args2, args3, args4, XK, XL, XM, extL, XN, XO, XP, XQ, XR, XT, XU, XV, XW, XX, XY, XZ, X0, X1, X2, X3, Addr.add, ↓reduceIte, Nat.reduceLT, Nat.reduceEqDiff, Nat.zero_add, Nat.reduceAdd, Option.map_some, X4, List.getElem_toArray, List.getElem_cons_zero, List.getElem_cons_succ]
       refine hK _ ?_
       clear hK K))
  refine t_done ?_
  refine t_seq ?_
  refine t_region ?_
  repeat (first
    | (refine t_skG rfl (by decide) rfl ?_)
    | (refine t_skU rfl (by decide) rfl ?_)
    | (first | refine t_rdG (by decide) rfl (by decide) rfl (fun K hK => ?_) | refine t_rd (by decide) (fun K hK => ?_)
       simp only [Xa, Xb, Xc, Xd, Xe, Xf, Xg, Xh, Xi, Xj, Xk, Xl, Xm, Xn, Xo, Xp, Xq, Xr, Xs, Xt, Xu, Xv, Xw, Xx, Xy, Xz, XA, XB, XD, XE, XF, XG, XH, XI, ev, XJ, upd, args1, args2, args3, args4, XK, XL, XM, extL, XN, XO, XP, XQ, XR, XT, XU, XV, XW, XX, XY, XZ, X0, X1, X2, X3, Addr.add, ↓reduceIte, Nat.reduceLT, Nat.reduceEqDiff, Nat.zero_add, Nat.reduceAdd, Option.map_some, X4, List.getElem_toArray, List.getElem_cons_zero, List.getElem_cons_succ]
       refine hK _ ?_
       clear hK K))
  refine t_done ?_
  refine t_seq ?_
  refine t_seq ?_
  refine t_region ?_
  repeat (first
    | (refine t_skG rfl (by decide) rfl ?_)
    | (refine t_skU rfl (by decide) rfl ?_)
    | (first | refine t_rdG (by decide) rfl (by decide) rfl (fun K hK => ?_) | refine t_rd (by decide) (fun K hK => ?_)
       simp only [Xa, Xb, Xc, Xd, Xe, Xf, Xg, Xh, Xi, Xj, Xk, Xl, Xm, Xn, Xo, Xp, Xq, Xr, Xs, Xt, Xu, Xv, Xw, Xx, Xy, Xz, XA, XB, XD, XE, XF, XG, XH, XI, ev, XJ, upd, args1, args2, args3, args4, XK, XL, XM, extL, XN, XO, XP, XQ, XR, XT, XU, XV, XW, XX, XY, XZ, X0, X1, X2, X3, Addr.add, ↓reduceIte, Nat.reduceLT, Nat.reduceEqDiff, Nat.zero_add, Nat.reduceAdd, Option.map_some, X4, List.getElem_toArray, List.getElem_cons_zero, List.getElem_cons_succ]
       refine hK _ ?_
       clear hK K))
  refine t_done ?_
  refine t_block ?_
  refine t_loop ?_
  refine t_while (fun m f O' w' => Rel x O w O' w' ∧ f 0 = v ∧ f 1 = .int .i64 floor ∧ f 2 = .bool bottom ∧ ∃ (j mb : Nat) (s : Value), f 8 = .int .i64 (j : Int) ∧ f 7 = s ∧ m = l.length - j ∧ j ≤ l.length ∧ w.heap.size ≤ mb ∧ Buf 4 x O' w' mb s (((l.take j).filter (keepAt l floor bottom)).map Ent.cells))
    l.length ⟨Rel.refl _ _ _, rfl, rfl, rfl, 0, w.heap.size, .slice none 0 0, rfl, rfl, rfl, Nat.zero_le _, Nat.le_refl _, Buf.nil _ _ _ _ _⟩ ?_
  rintro m f O1 w1 ⟨r1, hf0, hf1, hf2, j, mb, s, hf8, hf7, hm, hj, hmb, hbuf⟩ ih
  have hv1 := hv.rely r1
  have hl := hv1.len
  have hw2 : IntKind.i64.wrap ((j : Int) + 1) = ((j + 1 : Nat) : Int) := by rw [wrap64] <;> omega
  have hsl : ((l.take j).filter (keepAt l floor bottom)).length ≤ j := Nat.le_trans (List.length_filter_le _ _) (by rw [List.length_take]; omega)
  refine t_seq ?_
  refine t_seq ?_
  refine t_region ?_
  by_cases hlt : j < l.length
  · have hd : decide ((j : Int) < (l.length : Int)) = true := decide_eq_true (by omega)
    have hej0 := List.getElem?_eq_getElem hlt
    generalize l[j] = a at hej0
    have hst := filter_step (F := keepAt l floor bottom) hej0
    obtain ⟨A, hA⟩ := hv1.at hej0
    have iA := hA.idx
    have fA := hA.f0
    repeat (first
      | (refine t_skG rfl (by decide) rfl ?_)
      | (refine t_skU rfl (by decide) rfl ?_)
      | (first | refine t_rdG (by decide) rfl (by decide) rfl (fun K hK => ?_) | refine t_rd (by decide) (fun K hK => ?_)
         simp only [Xa, Xb, Xc, Xd, Xe, Xf, Xg, Xh, Xi, Xj, Xk, Xl, Xm, Xn, Xo, Xp, Xq, Xr, Xs, Xt, Xu, Xv, Xw, Xx, Xy, Xz, XA, XB, XD, XE, XF, XG, XH, XI, ev, XJ, upd, args1, args2, args3, args4, XK, XL, XM, extL, XN, XO, XP, XQ, XR, XT, XU, XV, XW, XX, XY, XZ, X0, X1, X2, X3, Addr.add, ↓reduceIte, Nat.reduceLT, Nat.reduceEqDiff, Nat.zero_add, Nat.reduceAdd, Option.map_some, X4, List.getElem_toArray, List.getElem_cons_zero, List.getElem_cons_succ, hf0, hf8, hl, hd]
         refine hK _ ?_
         clear hK K))
    refine t_done ?_
    refine t_true rfl ?_
    refine t_skip ?_
    refine t_seq ?_
    refine t_block ?_
    -- on
    have goOn : ∀ (f : Nat → Value) (O2 : Gh) (w2 : World) (mb' : Nat) (s' : Value), Rel x O w O2 w2 → f 0 = v → f 1 = .int .i64 floor → f 2 = .bool bottom → f 8 = .int .i64 (j : Int) → f 7 = s' → w.heap.size ≤ mb' → Buf 4 x O2 w2 mb' s' (((l.take (j + 1)).filter (keepAt l floor bottom)).map Ent.cells) →
        Tree P x St O2 (G (Fr (base 22) 67 f [] [.code (tlC (tlC loop22)), .inLoop loop22, .inBlock 0, .code (tlC (tlC (tlC body22)))]) (c :: cs)) w2 := by
      intro f O2 w2 mb' s' r2 g0 g1 g2 g8 g7 hmb' hb'
      refine t_region ?_
      repeat (first
        | (refine t_skG rfl (by decide) rfl ?_)
        | (refine t_skU rfl (by decide) rfl ?_)
        | (first | refine t_rdG (by decide) rfl (by decide) rfl (fun K hK => ?_) | refine t_rd (by decide) (fun K hK => ?_)
           simp only [Xa, Xb, Xc, Xd, Xe, Xf, Xg, Xh, Xi, Xj, Xk, Xl, Xm, Xn, Xo, Xp, Xq, Xr, Xs, Xt, Xu, Xv, Xw, Xx, Xy, Xz, XA, XB, XD, XE, XF, XG, XH, XI, ev, XJ, upd, args1, args2, args3, args4, XK, XL, XM, extL, XN, XO, XP, XQ, XR, XT, XU, XV, XW, XX, XY, XZ, X0, X1, X2, X3, Addr.add, ↓reduceIte, Nat.reduceLT, Nat.reduceEqDiff, Nat.zero_add, Nat.reduceAdd, Option.map_some, X4, List.getElem_toArray, List.getElem_cons_zero, List.getElem_cons_succ, g8, hw2]
           refine hK _ ?_
           clear hK K))
      refine t_done ?_
      refine t_inLoop ?_
      exact ih (l.length - (j + 1)) _ O2 w2 (by omega) ⟨r2, g0, g1, g2, j + 1, mb', s', rfl, g7, rfl, by omega, hmb', hb'⟩
    refine t_seq ?_
    refine t_region ?_
    iterate 7 (first
      | (refine t_skG rfl (by decide) rfl ?_)
      | (refine t_skU rfl (by decide) rfl ?_)
      | (first | refine t_rdG (by decide) rfl (by decide) rfl (fun K hK => ?_) | refine t_rd (by decide) (fun K hK => ?_)
         simp only [Xa, Xb, Xc, Xd, Xe, Xf, Xg, Xh, Xi, Xj, Xk, Xl, Xm, Xn, Xo, Xp, Xq, Xr, Xs, Xt, Xu, Xv, Xw, Xx, Xy, Xz, XA, XB, XD, XE, XF, XG, XH, XI, ev, XJ, upd, args1, args2, args3, args4, XK, XL, XM, extL, XN, XO, XP, XQ, XR, XT, XU, XV, XW, XX, XY, XZ, X0, X1, X2, X3, Addr.add, ↓reduceIte, Nat.reduceLT, Nat.reduceEqDiff, Nat.zero_add, Nat.reduceAdd, Option.map_some, X4, List.getElem_toArray, List.getElem_cons_zero, List.getElem_cons_succ, hf0, hf1, hf8, iA, fA]
         refine hK _ ?_
         clear hK K))
    refine t_callA #[v, .string a.key, .int .i64 floor] (by decide) Try.func35 nm35 rfl (by simp only [List.map_toArray, List.map_cons, List.map_nil, Xa, Xb, Xc, Xd, Xe, Xf, Xg, Xh, Xi, Xj, Xk, Xl, Xm, Xn, Xo, Xp, Xq, Xr, Xs, Xt, Xu, Xv, Xw, Xx, Xy, Xz, XA, XB, XD, XE, XF, XG, XH, XI, ev, XJ, upd, args1, args2, args3, args4, XK, XL, XM, extL, XN, XO, XP, XQ, XR, XT, XU, XV, XW, XX, XY, XZ, X0, X1, X2, X3, Addr.add, ↓reduceIte, Nat.reduceLT, Nat.reduceEqDiff, Nat.zero_add, Nat.reduceAdd, Option.map_some, X4, List.getElem_toArray, List.getElem_cons_zero, List.getElem_cons_succ]) ?_
    intro c2 hret
    refine Get_M l v a.key floor O1 w1 c2 _ hv1 (by omega) fun O2 w2 r2 => hret _ O2 w2 ?_
    clear hret
    have hkq : keepAt l floor bottom a = (decide (floor < a.seq) || keepOk (getL l a.key floor) bottom a) := rfl
    rw [hkq] at hst
    clear hkq
    generalize hq : getL l a.key floor = q at hst
    have e0 : extL 0 (.tuple #[(q.getD ent0).v, .bool q.isSome]) = some (.value (q.getD ent0).v) := rfl
    have e1 : extL 1 (.tuple #[(q.getD ent0).v, .bool q.isSome]) = some (.value (.bool q.isSome)) := rfl
    iterate 3 (first
      | (refine t_skG rfl (by decide) rfl ?_)
      | (refine t_skU rfl (by decide) rfl ?_)
      | (first | refine t_rdG (by decide) rfl (by decide) rfl (fun K hK => ?_) | refine t_rd (by decide) (fun K hK => ?_)
         simp only [Xa, Xb, Xc, Xd, Xe, Xf, Xg, Xh, Xi, Xj, Xk, Xl, Xm, Xn, Xo, Xp, Xq, Xr, Xs, Xt, Xu, Xv, Xw, Xx, Xy, Xz, XA, XB, XD, XE, XF, XG, XH, XI, ev, XJ, upd, args1, args2, args3, args4, XK, XL, XM, extL, XN, XO, XP, XQ, XR, XT, XU, XV, XW, XX, XY, XZ, X0, X1, X2, X3, Addr.add, ↓reduceIte, Nat.reduceLT, Nat.reduceEqDiff, Nat.zero_add, Nat.reduceAdd, Option.map_some, X4, List.getElem_toArray, List.getElem_cons_zero, List.getElem_cons_succ, e0, e1]
         refine hK _ ?_
         clear hK K))
    refine t_allocE (by decide) ?_
    intro m7 O3 w3 r3 ge3 v3
    refine t_storeE (q := q.getD ent0) (by decide) (by simp only [Xa, Xb, Xc, Xd, Xe, Xf, Xg, Xh, Xi, Xj, Xk, Xl, Xm, Xn, Xo, Xp, Xq, Xr, Xs, Xt, Xu, Xv, Xw, Xx, Xy, Xz, XA, XB, XD, XE, XF, XG, XH, XI, ev, XJ, upd, args1, args2, args3, args4, XK, XL, XM, extL, XN, XO, XP, XQ, XR, XT, XU, XV, XW, XX, XY, XZ, X0, X1, X2, X3, Addr.add, ↓reduceIte, Nat.reduceLT, Nat.reduceEqDiff, Nat.zero_add, Nat.reduceAdd, Option.map_some, X4, List.getElem_toArray, List.getElem_cons_zero, List.getElem_cons_succ]) (by simp only [Xa, Xb, Xc, Xd, Xe, Xf, Xg, Xh, Xi, Xj, Xk, Xl, Xm, Xn, Xo, Xp, Xq, Xr, Xs, Xt, Xu, Xv, Xw, Xx, Xy, Xz, XA, XB, XD, XE, XF, XG, XH, XI, ev, XJ, upd, args1, args2, args3, args4, XK, XL, XM, extL, XN, XO, XP, XQ, XR, XT, XU, XV, XW, XX, XY, XZ, X0, X1, X2, X3, Addr.add, ↓reduceIte, Nat.reduceLT, Nat.reduceEqDiff, Nat.zero_add, Nat.reduceAdd, Option.map_some, X4, List.getElem_toArray, List.getElem_cons_zero, List.getElem_cons_succ]) v3 ?_
    intro O4 w4 w5 r4 md4 v5
    repeat (first
      | (refine t_skG rfl (by decide) rfl ?_)
      | (refine t_skU rfl (by decide) rfl ?_)
      | (first | refine t_rdG (by decide) rfl (by decide) rfl (fun K hK => ?_) | refine t_rd (by decide) (fun K hK => ?_)
         simp only [Xa, Xb, Xc, Xd, Xe, Xf, Xg, Xh, Xi, Xj, Xk, Xl, Xm, Xn, Xo, Xp, Xq, Xr, Xs, Xt, Xu, Xv, Xw, Xx, Xy, Xz, XA, XB, XD, XE, XF, XG, XH, XI, ev, XJ, upd, args1, args2, args3, args4, XK, XL, XM, extL, XN, XO, XP, XQ, XR, XT, XU, XV, XW, XX, XY, XZ, X0, X1, X2, X3, Addr.add, ↓reduceIte, Nat.reduceLT, Nat.reduceEqDiff, Nat.zero_add, Nat.reduceAdd, Option.map_some, X4, List.getElem_toArray, List.getElem_cons_zero, List.getElem_cons_succ]
         refine hK _ ?_
         clear hK K))
    refine t_done ?_
    have r5' : Rel x O1 w1 O4 w5 := ((r2.trans r3).trans r4).mod md4 (by have := r2.size; omega)
    have r5 := r1.trans r5'
    have hbuf5 := hbuf.rely r5'
    have hv5 := hv.rely r5
    have d1 := v5.l1
    -- the entry is taken
    have goAdd : ∀ (f : Nat → Value) (O1 : Gh) (w1 : World), Rel x O4 w5 O1 w1 → f 0 = v → f 1 = .int .i64 floor → f 2 = .bool bottom → f 8 = .int .i64 (j : Int) → f 7 = s → (decide (floor < a.seq) || keepOk q bottom a) = true →
        Tree P x St O1 (G (Fr (base 22) 67 f [] [.code (.region 7 (match tlC (tlC (bodyB' (hdC (tlC loop22)))) with | .cond _ (.region _ r _) _ => r | _ => #[]) false), .inBlock 1, .code (tlC (tlC loop22)), .inLoop loop22, .inBlock 0, .code (tlC (tlC (tlC body22)))]) (c :: cs)) w1 := by
      intro f O1 w1 r1 g0 g1 g2 g8 g7 hk
      rw [hk, if_pos rfl] at hst
      obtain ⟨B, hB⟩ := (hv5.rely r1).at hej0
      have iB := hB.idx
      have wB := hB.whole
      have r6 := r5.trans r1
      refine t_region ?_
      iterate 5 (first
        | (refine t_skG rfl (by decide) rfl ?_)
        | (refine t_skU rfl (by decide) rfl ?_)
        | (first | refine t_rdG (by decide) rfl (by decide) rfl (fun K hK => ?_) | refine t_rd (by decide) (fun K hK => ?_)
           simp only [Xa, Xb, Xc, Xd, Xe, Xf, Xg, Xh, Xi, Xj, Xk, Xl, Xm, Xn, Xo, Xp, Xq, Xr, Xs, Xt, Xu, Xv, Xw, Xx, Xy, Xz, XA, XB, XD, XE, XF, XG, XH, XI, ev, XJ, upd, args1, args2, args3, args4, XK, XL, XM, extL, XN, XO, XP, XQ, XR, XT, XU, XV, XW, XX, XY, XZ, X0, X1, X2, X3, Addr.add, ↓reduceIte, Nat.reduceLT, Nat.reduceEqDiff, Nat.zero_add, Nat.reduceAdd, Option.map_some, X4, List.getElem_toArray, List.getElem_cons_zero, List.getElem_cons_succ, g0, g7, g8, iB, wB]
           refine hK _ ?_
           clear hK K))
      refine t_buildSlice (sz := 4) (cells := a.cells) (pv := #[(0, a.v)]) Try.underlying25 rfl (by decide) zero37 (by decide) (by simp only [List.map_toArray, List.map_cons, List.map_nil, Xa, Xb, Xc, Xd, Xe, Xf, Xg, Xh, Xi, Xj, Xk, Xl, Xm, Xn, Xo, Xp, Xq, Xr, Xs, Xt, Xu, Xv, Xw, Xx, Xy, Xz, XA, XB, XD, XE, XF, XG, XH, XI, ev, XJ, upd, args1, args2, args3, args4, XK, XL, XM, extL, XN, XO, XP, XQ, XR, XT, XU, XV, XW, XX, XY, XZ, X0, X1, X2, X3, Addr.add, ↓reduceIte, Nat.reduceLT, Nat.reduceEqDiff, Nat.zero_add, Nat.reduceAdd, Option.map_some, X4, List.getElem_toArray, List.getElem_cons_zero, List.getElem_cons_succ]) (fun c0 h0 => by
        rw [fill_one (off := 0) (sz := 4) rfl rfl (by simp at h0; omega), Instr.fill]
        have : c0.toList.drop 4 = [] := List.drop_eq_nil_iff.2 (by simp; omega)
        simp [this, Value.cells, Ent.v]) ?_
      intro mq Oq wq hq
      have hsq : Sl 4 (ldOf x Oq wq) (.slice (some ⟨mq, 0, none⟩) 1 1) [a.cells] := hq.one
      refine t_append Try.underlying25 rfl rfl rfl (by decide) (by decide) (by decide) zero37 rfl (by decide) rfl rfl ((hbuf5.rely r1).rely hq.rel) hsq (by simp; omega) (fun b hb => cells_ok [a] b (by simpa using hb)) ?_
      intro Or wr m' s' Ot wt rr hmt hbuft hmm
      repeat (first
        | (refine t_skG rfl (by decide) rfl ?_)
        | (refine t_skU rfl (by decide) rfl ?_)
        | (first | refine t_rdG (by decide) rfl (by decide) rfl (fun K hK => ?_) | refine t_rd (by decide) (fun K hK => ?_)
           simp only [Xa, Xb, Xc, Xd, Xe, Xf, Xg, Xh, Xi, Xj, Xk, Xl, Xm, Xn, Xo, Xp, Xq, Xr, Xs, Xt, Xu, Xv, Xw, Xx, Xy, Xz, XA, XB, XD, XE, XF, XG, XH, XI, ev, XJ, upd, args1, args2, args3, args4, XK, XL, XM, extL, XN, XO, XP, XQ, XR, XT, XU, XV, XW, XX, XY, XZ, X0, X1, X2, X3, Addr.add, ↓reduceIte, Nat.reduceLT, Nat.reduceEqDiff, Nat.zero_add, Nat.reduceAdd, Option.map_some, X4, List.getElem_toArray, List.getElem_cons_zero, List.getElem_cons_succ]
           refine hK _ ?_
           clear hK K))
      refine t_done ?_
      have rqr := (r6.trans hq.rel).trans rr
      refine t_inBlock ?_
      refine goOn _ Ot wt m' s' (rqr.mod hmt hmb) g0 g1 g2 g8 rfl ?_ (by rw [hst, List.map_append]; exact hbuft)
      rcases hmm with rfl | ⟨hmm, _⟩
      · exact hmb
      · exact Nat.le_trans rqr.size hmm
    have goNot : ∀ (f : Nat → Value) (O1 : Gh) (w1 : World), Rel x O4 w5 O1 w1 → f 0 = v → f 1 = .int .i64 floor → f 2 = .bool bottom → f 8 = .int .i64 (j : Int) → f 7 = s → (decide (floor < a.seq) || keepOk q bottom a) = false →
        Tree P x St O1 (G (Fr (base 22) 67 f [] [.code (tlC (tlC loop22)), .inLoop loop22, .inBlock 0, .code (tlC (tlC (tlC body22)))]) (c :: cs)) w1 := by
      intro f O1 w1 r1 g0 g1 g2 g8 g7 hk
      rw [hk, if_neg (by simp), List.append_nil] at hst
      exact goOn _ O1 w1 mb s (r5.trans r1) g0 g1 g2 g8 g7 hmb (by rw [hst]; exact hbuf5.rely r1)
    obtain ⟨B, hB⟩ := hv5.at hej0
    have iB := hB.idx
    have sB := hB.f1
    have dB := hB.f2
    refine t_seq ?_
    refine t_drawn rfl (by decide) ?_
    cases hg : decide (floor < a.seq) with
    | true =>
      repeat (first
        | (refine d_skG rfl (by decide) rfl ?_)
        | (refine d_skU rfl (by decide) rfl ?_)
        | (first | refine d_rdG rfl (by decide) rfl (fun K hK => ?_) | refine d_rd (fun K hK => ?_)
           simp only [Xa, Xb, Xc, Xd, Xe, Xf, Xg, Xh, Xi, Xj, Xk, Xl, Xm, Xn, Xo, Xp, Xq, Xr, Xs, Xt, Xu, Xv, Xw, Xx, Xy, Xz, XA, XB, XD, XE, XF, XG, XH, XI, ev, XJ, upd, args1, args2, args3, args4, XK, XL, XM, extL, XN, XO, XP, XQ, XR, XT, XU, XV, XW, XX, XY, XZ, X0, X1, X2, X3, Addr.add, ↓reduceIte, Nat.reduceLT, Nat.reduceEqDiff, Nat.zero_add, Nat.reduceAdd, Option.map_some, X4, List.getElem_toArray, List.getElem_cons_zero, List.getElem_cons_succ, hf0, hf1, hf8, iB, sB, hg]
           refine hK _ ?_
           clear hK K))
      refine d_done ?_
      intro O6 w6 r6
      refine t_true (by first | (simp only [Xa, Xb, Xc, Xd, Xe, Xf, Xg, Xh, Xi, Xj, Xk, Xl, Xm, Xn, Xo, Xp, Xq, Xr, Xs, Xt, Xu, Xv, Xw, Xx, Xy, Xz, XA, XB, XD, XE, XF, XG, XH, XI, ev, XJ, upd, args1, args2, args3, args4, XK, XL, XM, extL, XN, XO, XP, XQ, XR, XT, XU, XV, XW, XX, XY, XZ, X0, X1, X2, X3, Addr.add, ↓reduceIte, Nat.reduceLT, Nat.reduceEqDiff, Nat.zero_add, Nat.reduceAdd, Option.map_some, X4, List.getElem_toArray, List.getElem_cons_zero, List.getElem_cons_succ]; done) | (simp only [Xa, Xb, Xc, Xd, Xe, Xf, Xg, Xh, Xi, Xj, Xk, Xl, Xm, Xn, Xo, Xp, Xq, Xr, Xs, Xt, Xu, Xv, Xw, Xx, Xy, Xz, XA, XB, XD, XE, XF, XG, XH, XI, ev, XJ, upd, args1, args2, args3, args4, XK, XL, XM, extL, XN, XO, XP, XQ, XR, XT, XU, XV, XW, XX, XY, XZ, X0, X1, X2, X3, Addr.add, ↓reduceIte, Nat.reduceLT, Nat.reduceEqDiff, Nat.zero_add, Nat.reduceAdd, Option.map_some, X4, List.getElem_toArray, List.getElem_cons_zero, List.getElem_cons_succ]; rfl)) ?_
      exact goAdd _ O6 w6 r6 hf0 hf1 hf2 hf8 hf7 (by rw [hg]; rfl)
    | false =>
      cases q with
      | none =>
        have qn : (none : Option Ent).isSome = false := rfl
        repeat (first
          | (refine d_skG rfl (by decide) rfl ?_)
          | (refine d_skU rfl (by decide) rfl ?_)
          | (first | refine d_rdG rfl (by decide) rfl (fun K hK => ?_) | refine d_rd (fun K hK => ?_)
             simp only [Xa, Xb, Xc, Xd, Xe, Xf, Xg, Xh, Xi, Xj, Xk, Xl, Xm, Xn, Xo, Xp, Xq, Xr, Xs, Xt, Xu, Xv, Xw, Xx, Xy, Xz, XA, XB, XD, XE, XF, XG, XH, XI, ev, XJ, upd, args1, args2, args3, args4, XK, XL, XM, extL, XN, XO, XP, XQ, XR, XT, XU, XV, XW, XX, XY, XZ, X0, X1, X2, X3, Addr.add, ↓reduceIte, Nat.reduceLT, Nat.reduceEqDiff, Nat.zero_add, Nat.reduceAdd, Option.map_some, X4, List.getElem_toArray, List.getElem_cons_zero, List.getElem_cons_succ, hf0, hf1, hf8, iB, sB, hg, qn]
             refine hK _ ?_
             clear hK K))
        refine d_done ?_
        intro O6 w6 r6
        refine t_false (by first | (simp only [Xa, Xb, Xc, Xd, Xe, Xf, Xg, Xh, Xi, Xj, Xk, Xl, Xm, Xn, Xo, Xp, Xq, Xr, Xs, Xt, Xu, Xv, Xw, Xx, Xy, Xz, XA, XB, XD, XE, XF, XG, XH, XI, ev, XJ, upd, args1, args2, args3, args4, XK, XL, XM, extL, XN, XO, XP, XQ, XR, XT, XU, XV, XW, XX, XY, XZ, X0, X1, X2, X3, Addr.add, ↓reduceIte, Nat.reduceLT, Nat.reduceEqDiff, Nat.zero_add, Nat.reduceAdd, Option.map_some, X4, List.getElem_toArray, List.getElem_cons_zero, List.getElem_cons_succ]; done) | (simp only [Xa, Xb, Xc, Xd, Xe, Xf, Xg, Xh, Xi, Xj, Xk, Xl, Xm, Xn, Xo, Xp, Xq, Xr, Xs, Xt, Xu, Xv, Xw, Xx, Xy, Xz, XA, XB, XD, XE, XF, XG, XH, XI, ev, XJ, upd, args1, args2, args3, args4, XK, XL, XM, extL, XN, XO, XP, XQ, XR, XT, XU, XV, XW, XX, XY, XZ, X0, X1, X2, X3, Addr.add, ↓reduceIte, Nat.reduceLT, Nat.reduceEqDiff, Nat.zero_add, Nat.reduceAdd, Option.map_some, X4, List.getElem_toArray, List.getElem_cons_zero, List.getElem_cons_succ]; rfl)) ?_
        refine t_skip ?_
        refine t_inBlock ?_
        exact goNot _ O6 w6 r6 hf0 hf1 hf2 hf8 hf7 (by rw [hg]; rfl)
      | some u =>
        have qn : (some u).isSome = true := rfl
        simp only [Option.getD_some] at d1
        cases he : (u.seq == a.seq) with
        | false =>
          repeat (first
            | (refine d_skG rfl (by decide) rfl ?_)
            | (refine d_skU rfl (by decide) rfl ?_)
            | (first | refine d_rdG rfl (by decide) rfl (fun K hK => ?_) | refine d_rd (fun K hK => ?_)
               simp only [Xa, Xb, Xc, Xd, Xe, Xf, Xg, Xh, Xi, Xj, Xk, Xl, Xm, Xn, Xo, Xp, Xq, Xr, Xs, Xt, Xu, Xv, Xw, Xx, Xy, Xz, XA, XB, XD, XE, XF, XG, XH, XI, ev, XJ, upd, args1, args2, args3, args4, XK, XL, XM, extL, XN, XO, XP, XQ, XR, XT, XU, XV, XW, XX, XY, XZ, X0, X1, X2, X3, Addr.add, ↓reduceIte, Nat.reduceLT, Nat.reduceEqDiff, Nat.zero_add, Nat.reduceAdd, Option.map_some, X4, List.getElem_toArray, List.getElem_cons_zero, List.getElem_cons_succ, hf0, hf1, hf8, iB, sB, hg, qn, d1, he]
               refine hK _ ?_
               clear hK K))
          refine d_done ?_
          intro O6 w6 r6
          refine t_false (by first | (simp only [Xa, Xb, Xc, Xd, Xe, Xf, Xg, Xh, Xi, Xj, Xk, Xl, Xm, Xn, Xo, Xp, Xq, Xr, Xs, Xt, Xu, Xv, Xw, Xx, Xy, Xz, XA, XB, XD, XE, XF, XG, XH, XI, ev, XJ, upd, args1, args2, args3, args4, XK, XL, XM, extL, XN, XO, XP, XQ, XR, XT, XU, XV, XW, XX, XY, XZ, X0, X1, X2, X3, Addr.add, ↓reduceIte, Nat.reduceLT, Nat.reduceEqDiff, Nat.zero_add, Nat.reduceAdd, Option.map_some, X4, List.getElem_toArray, List.getElem_cons_zero, List.getElem_cons_succ]; done) | (simp only [Xa, Xb, Xc, Xd, Xe, Xf, Xg, Xh, Xi, Xj, Xk, Xl, Xm, Xn, Xo, Xp, Xq, Xr, Xs, Xt, Xu, Xv, Xw, Xx, Xy, Xz, XA, XB, XD, XE, XF, XG, XH, XI, ev, XJ, upd, args1, args2, args3, args4, XK, XL, XM, extL, XN, XO, XP, XQ, XR, XT, XU, XV, XW, XX, XY, XZ, X0, X1, X2, X3, Addr.add, ↓reduceIte, Nat.reduceLT, Nat.reduceEqDiff, Nat.zero_add, Nat.reduceAdd, Option.map_some, X4, List.getElem_toArray, List.getElem_cons_zero, List.getElem_cons_succ]; rfl)) ?_
          refine t_skip ?_
          refine t_inBlock ?_
          exact goNot _ O6 w6 r6 hf0 hf1 hf2 hf8 hf7 (by rw [hg]; simp [keepOk, he])
        | true =>
          cases hbo : bottom with
          | false =>
            have hf2' : f 2 = .bool false := by rw [hf2, hbo]
            repeat (first
              | (refine d_skG rfl (by decide) rfl ?_)
              | (refine d_skU rfl (by decide) rfl ?_)
              | (first | refine d_rdG rfl (by decide) rfl (fun K hK => ?_) | refine d_rd (fun K hK => ?_)
                 simp only [Xa, Xb, Xc, Xd, Xe, Xf, Xg, Xh, Xi, Xj, Xk, Xl, Xm, Xn, Xo, Xp, Xq, Xr, Xs, Xt, Xu, Xv, Xw, Xx, Xy, Xz, XA, XB, XD, XE, XF, XG, XH, XI, ev, XJ, upd, args1, args2, args3, args4, XK, XL, XM, extL, XN, XO, XP, XQ, XR, XT, XU, XV, XW, XX, XY, XZ, X0, X1, X2, X3, Addr.add, ↓reduceIte, Nat.reduceLT, Nat.reduceEqDiff, Nat.zero_add, Nat.reduceAdd, Option.map_some, X4, List.getElem_toArray, List.getElem_cons_zero, List.getElem_cons_succ, hf0, hf1, hf2', hf8, iB, sB, hg, qn, d1, he]
                 refine hK _ ?_
                 clear hK K))
            refine d_done ?_
            intro O6 w6 r6
            refine t_true (by first | (simp only [Xa, Xb, Xc, Xd, Xe, Xf, Xg, Xh, Xi, Xj, Xk, Xl, Xm, Xn, Xo, Xp, Xq, Xr, Xs, Xt, Xu, Xv, Xw, Xx, Xy, Xz, XA, XB, XD, XE, XF, XG, XH, XI, ev, XJ, upd, args1, args2, args3, args4, XK, XL, XM, extL, XN, XO, XP, XQ, XR, XT, XU, XV, XW, XX, XY, XZ, X0, X1, X2, X3, Addr.add, ↓reduceIte, Nat.reduceLT, Nat.reduceEqDiff, Nat.zero_add, Nat.reduceAdd, Option.map_some, X4, List.getElem_toArray, List.getElem_cons_zero, List.getElem_cons_succ]; done) | (simp only [Xa, Xb, Xc, Xd, Xe, Xf, Xg, Xh, Xi, Xj, Xk, Xl, Xm, Xn, Xo, Xp, Xq, Xr, Xs, Xt, Xu, Xv, Xw, Xx, Xy, Xz, XA, XB, XD, XE, XF, XG, XH, XI, ev, XJ, upd, args1, args2, args3, args4, XK, XL, XM, extL, XN, XO, XP, XQ, XR, XT, XU, XV, XW, XX, XY, XZ, X0, X1, X2, X3, Addr.add, ↓reduceIte, Nat.reduceLT, Nat.reduceEqDiff, Nat.zero_add, Nat.reduceAdd, Option.map_some, X4, List.getElem_toArray, List.getElem_cons_zero, List.getElem_cons_succ]; rfl)) ?_
            exact goAdd _ O6 w6 r6 hf0 hf1 hf2 hf8 hf7 (by rw [hg]; simp [keepOk, he, hbo])
          | true =>
            have hf2' : f 2 = .bool true := by rw [hf2, hbo]
            cases hdl : a.del with
            | false =>
              rw [hdl] at dB
              repeat (first
                | (refine d_skG rfl (by decide) rfl ?_)
                | (refine d_skU rfl (by decide) rfl ?_)
                | (first | refine d_rdG rfl (by decide) rfl (fun K hK => ?_) | refine d_rd (fun K hK => ?_)
                   simp only [Xa, Xb, Xc, Xd, Xe, Xf, Xg, Xh, Xi, Xj, Xk, Xl, Xm, Xn, Xo, Xp, Xq, Xr, Xs, Xt, Xu, Xv, Xw, Xx, Xy, Xz, XA, XB, XD, XE, XF, XG, XH, XI, ev, XJ, upd, args1, args2, args3, args4, XK, XL, XM, extL, XN, XO, XP, XQ, XR, XT, XU, XV, XW, XX, XY, XZ, X0, X1, X2, X3, Addr.add, ↓reduceIte, Nat.reduceLT, Nat.reduceEqDiff, Nat.zero_add, Nat.reduceAdd, Option.map_some, X4, List.getElem_toArray, List.getElem_cons_zero, List.getElem_cons_succ, hf0, hf1, hf2', hf8, iB, sB, dB, hg, qn, d1, he]
                   refine hK _ ?_
                   clear hK K))
              refine d_done ?_
              intro O6 w6 r6
              refine t_true (by first | (simp only [Xa, Xb, Xc, Xd, Xe, Xf, Xg, Xh, Xi, Xj, Xk, Xl, Xm, Xn, Xo, Xp, Xq, Xr, Xs, Xt, Xu, Xv, Xw, Xx, Xy, Xz, XA, XB, XD, XE, XF, XG, XH, XI, ev, XJ, upd, args1, args2, args3, args4, XK, XL, XM, extL, XN, XO, XP, XQ, XR, XT, XU, XV, XW, XX, XY, XZ, X0, X1, X2, X3, Addr.add, ↓reduceIte, Nat.reduceLT, Nat.reduceEqDiff, Nat.zero_add, Nat.reduceAdd, Option.map_some, X4, List.getElem_toArray, List.getElem_cons_zero, List.getElem_cons_succ]; done) | (simp only [Xa, Xb, Xc, Xd, Xe, Xf, Xg, Xh, Xi, Xj, Xk, Xl, Xm, Xn, Xo, Xp, Xq, Xr, Xs, Xt, Xu, Xv, Xw, Xx, Xy, Xz, XA, XB, XD, XE, XF, XG, XH, XI, ev, XJ, upd, args1, args2, args3, args4, XK, XL, XM, extL, XN, XO, XP, XQ, XR, XT, XU, XV, XW, XX, XY, XZ, X0, X1, X2, X3, Addr.add, ↓reduceIte, Nat.reduceLT, Nat.reduceEqDiff, Nat.zero_add, Nat.reduceAdd, Option.map_some, X4, List.getElem_toArray, List.getElem_cons_zero, List.getElem_cons_succ]; rfl)) ?_
              exact goAdd _ O6 w6 r6 hf0 hf1 hf2 hf8 hf7 (by rw [hg]; simp [keepOk, he, hbo, hdl])
            | true =>
              rw [hdl] at dB
              repeat (first
                | (refine d_skG rfl (by decide) rfl ?_)
                | (refine d_skU rfl (by decide) rfl ?_)
                | (first | refine d_rdG rfl (by decide) rfl (fun K hK => ?_) | refine d_rd (fun K hK => ?_)
                   simp only [Xa, Xb, Xc, Xd, Xe, Xf, Xg, Xh, Xi, Xj, Xk, Xl, Xm, Xn, Xo, Xp, Xq, Xr, Xs, Xt, Xu, Xv, Xw, Xx, Xy, Xz, XA, XB, XD, XE, XF, XG, XH, XI, ev, XJ, upd, args1, args2, args3, args4, XK, XL, XM, extL, XN, XO, XP, XQ, XR, XT, XU, XV, XW, XX, XY, XZ, X0, X1, X2, X3, Addr.add, ↓reduceIte, Nat.reduceLT, Nat.reduceEqDiff, Nat.zero_add, Nat.reduceAdd, Option.map_some, X4, List.getElem_toArray, List.getElem_cons_zero, List.getElem_cons_succ, hf0, hf1, hf2', hf8, iB, sB, dB, hg, qn, d1, he]
                   refine hK _ ?_
                   clear hK K))
              refine d_done ?_
              intro O6 w6 r6
              refine t_false (by first | (simp only [Xa, Xb, Xc, Xd, Xe, Xf, Xg, Xh, Xi, Xj, Xk, Xl, Xm, Xn, Xo, Xp, Xq, Xr, Xs, Xt, Xu, Xv, Xw, Xx, Xy, Xz, XA, XB, XD, XE, XF, XG, XH, XI, ev, XJ, upd, args1, args2, args3, args4, XK, XL, XM, extL, XN, XO, XP, XQ, XR, XT, XU, XV, XW, XX, XY, XZ, X0, X1, X2, X3, Addr.add, ↓reduceIte, Nat.reduceLT, Nat.reduceEqDiff, Nat.zero_add, Nat.reduceAdd, Option.map_some, X4, List.getElem_toArray, List.getElem_cons_zero, List.getElem_cons_succ]; done) | (simp only [Xa, Xb, Xc, Xd, Xe, Xf, Xg, Xh, Xi, Xj, Xk, Xl, Xm, Xn, Xo, Xp, Xq, Xr, Xs, Xt, Xu, Xv, Xw, Xx, Xy, Xz, XA, XB, XD, XE, XF, XG, XH, XI, ev, XJ, upd, args1, args2, args3, args4, XK, XL, XM, extL, XN, XO, XP, XQ, XR, XT, XU, XV, XW, XX, XY, XZ, X0, X1, X2, X3, Addr.add, ↓reduceIte, Nat.reduceLT, Nat.reduceEqDiff, Nat.zero_add, Nat.reduceAdd, Option.map_some, X4, List.getElem_toArray, List.getElem_cons_zero, List.getElem_cons_succ]; rfl)) ?_
              refine t_skip ?_
              refine t_inBlock ?_
              exact goNot _ O6 w6 r6 hf0 hf1 hf2 hf8 hf7 (by rw [hg]; simp [keepOk, he, hbo, hdl])
  · have hd : decide ((j : Int) < (l.length : Int)) = false := decide_eq_false (by omega)
    repeat (first
      | (refine t_skG rfl (by decide) rfl ?_)
      | (refine t_skU rfl (by decide) rfl ?_)
      | (first | refine t_rdG (by decide) rfl (by decide) rfl (fun K hK => ?_) | refine t_rd (by decide) (fun K hK => ?_)
         simp only [Xa, Xb, Xc, Xd, Xe, Xf, Xg, Xh, Xi, Xj, Xk, Xl, Xm, Xn, Xo, Xp, Xq, Xr, Xs, Xt, Xu, Xv, Xw, Xx, Xy, Xz, XA, XB, XD, XE, XF, XG, XH, XI, ev, XJ, upd, args1, args2, args3, args4, XK, XL, XM, extL, XN, XO, XP, XQ, XR, XT, XU, XV, XW, XX, XY, XZ, X0, X1, X2, X3, Addr.add, ↓reduceIte, Nat.reduceLT, Nat.reduceEqDiff, Nat.zero_add, Nat.reduceAdd, Option.map_some, X4, List.getElem_toArray, List.getElem_cons_zero, List.getElem_cons_succ, hf0, hf8, hl, hd]
         refine hK _ ?_
         clear hK K))
    refine t_done ?_
    refine t_false rfl ?_
    refine t_exit rfl ?_
    refine t_seq ?_
    refine t_region ?_
    repeat (first
      | (refine t_skG rfl (by decide) rfl ?_)
      | (refine t_skU rfl (by decide) rfl ?_)
      | (first | refine t_rdG (by decide) rfl (by decide) rfl (fun K hK => ?_) | refine t_rd (by decide) (fun K hK => ?_)
         simp only [Xa, Xb, Xc, Xd, Xe, Xf, Xg, Xh, Xi, Xj, Xk, Xl, Xm, Xn, Xo, Xp, Xq, Xr, Xs, Xt, Xu, Xv, Xw, Xx, Xy, Xz, XA, XB, XD, XE, XF, XG, XH, XI, ev, XJ, upd, args1, args2, args3, args4, XK, XL, XM, extL, XN, XO, XP, XQ, XR, XT, XU, XV, XW, XX, XY, XZ, X0, X1, X2, X3, Addr.add, ↓reduceIte, Nat.reduceLT, Nat.reduceEqDiff, Nat.zero_add, Nat.reduceAdd, Option.map_some, X4, List.getElem_toArray, List.getElem_cons_zero, List.getElem_cons_succ, hf7]
         refine hK _ ?_
         clear hK K))
    refine t_done ?_
    refine t_ret ?_
    refine t_leave1 rfl Try.func22 Try.results22 ?_
    rw [List.take_of_length_le (by omega)] at hbuf
    exact h O1 w1 mb s r1 hbuf
end Go.Proofs.Ytdajdembeacefaa.M
set_option linter.unusedSimpArgs false
set_option linter.unusedVariables false
namespace Go.Proofs.Ytdajdembeacefaa.M
open Go.Conc

/-! ### a walk that writes some blocks of its own, and new ones -/
structure Wk (x : Th) (S : List Nat) (O : Gh) (w : World) (O' : Gh) (w' : World) : Prop where
  size : w.heap.size ≤ w'.heap.size
  rel : ∀ Ob wb, Rel x Ob wb O w → (∀ m ∈ S, wb.heap.size ≤ m) → Rel x Ob wb O' w'
  own : ∀ b, b < w.heap.size → O.tag b = .mine x.id → O'.tag b = .mine x.id
  same : ∀ b, b ∉ S → b < w.heap.size → O.tag b = .mine x.id → w'.heap[b]? = w.heap[b]?
section
variable {x : Th} {S S' : List Nat} {O O1 O2 : Gh} {w w1 w2 : World}
theorem Wk.refl (x : Th) (S : List Nat) (O : Gh) (w : World) : Wk x S O w O w := ⟨Nat.le_refl _, fun _ _ h _ => h, fun _ _ h => h, fun _ _ _ _ => rfl⟩
theorem Wk.ofRel (r : Rel x O w O1 w1) : Wk x S O w O1 w1 := ⟨r.size, fun _ _ h _ => h.trans r, fun b hb h => (r.tags b hb (.inl h)).trans h, fun b _ hb h => r.block b hb (.inl h)⟩
theorem Wk.ofMod {m : Nat} (k : Mod O w O1 w1 m) (hm : m ∈ S) : Wk x S O w O1 w1 := ⟨k.size, fun _ _ h hS => h.mod k (hS m hm), fun b hb h => (k.tags b hb).trans h, fun b hS hb _ => k.block b hb (fun e => hS (e ▸ hm))⟩
theorem Wk.trans (h : Wk x S O w O1 w1) (k : Wk x S O1 w1 O2 w2) : Wk x S O w O2 w2 :=
  ⟨Nat.le_trans h.size k.size, fun Ob wb r hS => k.rel Ob wb (h.rel Ob wb r hS) hS, fun b hb t => k.own b (Nat.lt_of_lt_of_le hb h.size) (h.own b hb t), fun b hS hb t => (k.same b hS (Nat.lt_of_lt_of_le hb h.size) (h.own b hb t)).trans (h.same b hS hb t)⟩
theorem Wk.mono (h : Wk x S O w O1 w1) (hs : ∀ m ∈ S, m ∈ S') : Wk x S' O w O1 w1 := ⟨h.size, fun Ob wb r hS => h.rel Ob wb r fun m hm => hS m (hs m hm), h.own, fun b hS => h.same b fun hm => hS (hs b hm)⟩
/-- A block of one's own, known whole. -/
def Own1 (x : Th) (O : Gh) (w : World) (m : Nat) (o : Obj) : Prop := O.tag m = .mine x.id ∧ w.heap[m]? = some o
theorem Own1.lt {m : Nat} {o : Obj} (h : Own1 x O w m o) : m < w.heap.size := (Array.getElem?_eq_some_iff.1 h.2).1
theorem Own1.wk {m : Nat} {o : Obj} (h : Own1 x O w m o) (k : Wk x S O w O1 w1) (hm : m ∉ S) : Own1 x O1 w1 m o := ⟨k.own m h.lt h.1, (k.same m hm h.lt h.1).trans h.2⟩
theorem Own1.ld {m : Nat} {c : Array Value} {t : TypeId} (h : Own1 x O w m (.cells c t (0, 0))) {i : Nat} {v : Value} (hv : c[i]? = some v) : ldOf x O w ⟨m, i, none⟩ = some v :=
  ldOf_of (.inl h.1) (by unfold World.cell?; rw [h.2]; simpa using hv)
theorem Buf.wk {sz m : Nat} {s : Value} {cs : List (Array Value)} (h : Buf sz x O w m s cs) (k : Wk x S O w O1 w1) (hm : m ∉ S) : Buf sz x O1 w1 m s cs := by
  obtain ⟨h0, h1 | ⟨cap, c, t, h1, h2, h3, h4⟩⟩ := h
  · exact ⟨h0, .inl h1⟩
  · have hlt := (Array.getElem?_eq_some_iff.1 h3).1
    exact ⟨h0, .inr ⟨cap, c, t, h1, k.own m hlt h2, (k.same m hm hlt h2).trans h3, h4⟩⟩
theorem MapIs.wk {m : Nat} {L : List (ByteArray × Int)} (h : MapIs x O w m L) (k : Wk x S O w O1 w1) (hm : m ∉ S) : MapIs x O1 w1 m L := by
  obtain ⟨h1, es, cl, h2, h3⟩ := h
  have hlt := (Array.getElem?_eq_some_iff.1 h2).1
  exact ⟨k.own m hlt h1, es, cl, (k.same m hm hlt h1).trans h2, h3⟩
end

/-! ### the closure -/
def cnt (floor : Int) (pre : List Ent) (key : ByteArray) : Nat := (pre.filter fun b => (b.key == key) && decide (b.seq ≤ floor)).length
def delAt (floor : Int) (bottom : Bool) (pre : List Ent) (a : Ent) : Bool := if decide (floor < a.seq) then false else (decide (0 < cnt floor pre a.key) || (bottom && a.del))
theorem cnt_le (floor : Int) (pre : List Ent) (key : ByteArray) : cnt floor pre key ≤ pre.length := List.length_filter_le _ _
theorem cnt_snoc (floor : Int) (pre : List Ent) (a : Ent) (key : ByteArray) : cnt floor (pre ++ [a]) key = cnt floor pre key + (if (a.key == key) && decide (a.seq ≤ floor) then 1 else 0) := by
  unfold cnt
  rw [List.filter_append, List.length_append]
  congr 1
  cases h : (a.key == key) && decide (a.seq ≤ floor) <;> simp [h]
/-- What the closure holds: where floor, the map's variable and bottom lie; the map; what has come by. -/
structure Clo (x : Th) (O : Gh) (w : World) (mF mM mB m : Nat) (floor : Int) (bottom : Bool) (pre : List Ent) : Prop where
  f : Own1 x O w mF (.cells #[.int .i64 floor] 3 (0, 0))
  mp : Own1 x O w mM (.cells #[.map (some m)] 71 (0, 0))
  b : Own1 x O w mB (.cells #[.bool bottom] 4 (0, 0))
  map : ∃ M, MapIs x O w m M ∧ ∀ k, getM M k = (cnt floor pre k : Int)
  nF : mF ≠ m
  nM : mM ≠ m
  nB : mB ≠ m
section
variable {x : Th} {S : List Nat} {O O1 O2 : Gh} {w w1 w2 : World} {mF mM mB m : Nat} {floor : Int} {bottom : Bool} {pre : List Ent}
theorem Clo.wk (h : Clo x O w mF mM mB m floor bottom pre) (k : Wk x S O w O1 w1) (h1 : mF ∉ S) (h2 : mM ∉ S) (h3 : mB ∉ S) (h4 : m ∉ S) : Clo x O1 w1 mF mM mB m floor bottom pre := by
  obtain ⟨M, q1, q2⟩ := h.map
  exact ⟨h.f.wk k h1, h.mp.wk k h2, h.b.wk k h3, ⟨M, q1.wk k h4, q2⟩, h.nF, h.nM, h.nB⟩
theorem Clo.rely (h : Clo x O w mF mM mB m floor bottom pre) (r : Rel x O w O1 w1) : Clo x O1 w1 mF mM mB m floor bottom pre := h.wk (S := []) (Wk.ofRel r) (by simp) (by simp) (by simp) (by simp)
end
def cloV (mF mM mB : Nat) : Value := .func (.func 34) #[] #[.pointer (some ⟨mF, 0, none⟩), .pointer (some ⟨mM, 0, none⟩), .pointer (some ⟨mB, 0, none⟩)]

set_option maxHeartbeats 4000000 in
theorem clo_M {x : Th} {St : Gh → Goroutine → World → Prop} (a : Ent) {mF mM mB m : Nat} {floor : Int} {bottom : Bool} {pre : List Ent} (O : Gh) (w : World) (c : Frame) (cs : List Frame) (hc : Clo x O w mF mM mB m floor bottom pre) (hlen : pre.length < 100000)
    (h : ∀ O' w', Wk x [m] O w O' w' → Clo x O' w' mF mM mB m floor bottom (pre ++ [a]) → Tree P x St O' (G (c.finish (.bool (delAt floor bottom pre a))) cs) w') :
    Tree P x St O (G (Frame.enter P 34 #[a.v, .pointer (some ⟨mF, 0, none⟩), .pointer (some ⟨mM, 0, none⟩), .pointer (some ⟨mB, 0, none⟩)] .normal) (c :: cs)) w := by
  rw [enter4 _ _ _ _ Try.func34 rfl Try.ntmps34 (by decide)]
  refine t_seq ?_
  refine t_region ?_
  refine t_box a.cells rfl (by decide) ?_
  intro m4 O1 w1 n1
  repeat (first
    | (refine t_skG rfl (by decide) rfl ?_)
    | (refine t_skU rfl (by decide) rfl ?_)
    | (first | refine t_rdG (by decide) rfl (by decide) rfl (fun K hK => ?_) | refine t_rd (by decide) (fun K hK => ?_)
       simp only [Xa, Xb, Xc, Xd, Xe, Xf, Xg, Xh, Xi, Xj, Xk, Xl, Xm, Xn, Xo, Xp, Xq, Xr, Xs, Xt, Xu, Xv, Xw, Xx, Xy, Xz, XA, XB, XD, XE, XF, XG, XH, XI, ev, XJ, upd, args1, args2, args3, args4, XK, XL, XM, extL, XN, XO, XP, XQ, XR, XT, XU, XV, XW, XX, XY, XZ, X0, X1, X2, X3, Addr.add, ↓reduceIte, Nat.reduceLT, Nat.reduceEqDiff, Nat.zero_add, Nat.reduceAdd, Option.map_some, X4, List.getElem_toArray, List.getElem_cons_zero, List.getElem_cons_succ]
       refine hK _ ?_
       clear hK K))
  refine t_done ?_
  have hc1 := hc.rely n1.rel
  have v4 : Own1 x O1 w1 m4 (.cells a.cells 37 (0, 0)) := ⟨n1.tag, n1.obj⟩
  have a0 := v4.ld (i := 0) (v := .string a.key) rfl
  have a1 := v4.ld (i := 1) (v := .int .i64 a.seq) rfl
  have a2 := v4.ld (i := 2) (v := .bool a.del) rfl
  have lF := hc1.f.ld (i := 0) (v := .int .i64 floor) rfl
  have lM := hc1.mp.ld (i := 0) (v := .map (some m)) rfl
  have lB := hc1.b.ld (i := 0) (v := .bool bottom) rfl
  refine t_seq ?_
  refine t_seq ?_
  refine t_region ?_
  cases hg : decide (floor < a.seq) with
  | true =>
    repeat (first
      | (refine t_skG rfl (by decide) rfl ?_)
      | (refine t_skU rfl (by decide) rfl ?_)
      | (first | refine t_rdG (by decide) rfl (by decide) rfl (fun K hK => ?_) | refine t_rd (by decide) (fun K hK => ?_)
         simp only [Xa, Xb, Xc, Xd, Xe, Xf, Xg, Xh, Xi, Xj, Xk, Xl, Xm, Xn, Xo, Xp, Xq, Xr, Xs, Xt, Xu, Xv, Xw, Xx, Xy, Xz, XA, XB, XD, XE, XF, XG, XH, XI, ev, XJ, upd, args1, args2, args3, args4, XK, XL, XM, extL, XN, XO, XP, XQ, XR, XT, XU, XV, XW, XX, XY, XZ, X0, X1, X2, X3, Addr.add, ↓reduceIte, Nat.reduceLT, Nat.reduceEqDiff, Nat.zero_add, Nat.reduceAdd, Option.map_some, X4, List.getElem_toArray, List.getElem_cons_zero, List.getElem_cons_succ, a1, lF, hg]
         refine hK _ ?_
         clear hK K))
    refine t_done ?_
    refine t_true rfl ?_
    refine t_seq ?_
    refine t_region ?_
    repeat (first
      | (refine t_skG rfl (by decide) rfl ?_)
      | (refine t_skU rfl (by decide) rfl ?_)
      | (first | refine t_rdG (by decide) rfl (by decide) rfl (fun K hK => ?_) | refine t_rd (by decide) (fun K hK => ?_)
         simp only [Xa, Xb, Xc, Xd, Xe, Xf, Xg, Xh, Xi, Xj, Xk, Xl, Xm, Xn, Xo, Xp, Xq, Xr, Xs, Xt, Xu, Xv, Xw, Xx, Xy, Xz, XA, XB, XD, XE, XF, XG, XH, XI, ev, XJ, upd, args1, args2, args3, args4, XK, XL, XM, extL, XN, XO, XP, XQ, XR, XT, XU, XV, XW, XX, XY, XZ, X0, X1, X2, X3, Addr.add, ↓reduceIte, Nat.reduceLT, Nat.reduceEqDiff, Nat.zero_add, Nat.reduceAdd, Option.map_some, X4, List.getElem_toArray, List.getElem_cons_zero, List.getElem_cons_succ]
         refine hK _ ?_
         clear hK K))
    refine t_done ?_
    refine t_ret ?_
    refine t_leave1 rfl Try.func34 Try.results34 ?_
    have hno : ∀ k, cnt floor (pre ++ [a]) k = cnt floor pre k := fun k => by
      have hx : decide (a.seq ≤ floor) = false := decide_eq_false (by have := of_decide_eq_true hg; omega)
      rw [cnt_snoc, hx]; simp
    have := h O1 w1 (Wk.ofRel n1.rel) (by
      obtain ⟨M, q1, q2⟩ := hc1.map
      exact ⟨hc1.f, hc1.mp, hc1.b, ⟨M, q1, fun k => by rw [hno k]; exact q2 k⟩, hc1.nF, hc1.nM, hc1.nB⟩)
    rw [show delAt floor bottom pre a = false by unfold delAt; rw [hg]; rfl] at this
    exact this
  | false =>
    have hle : decide (a.seq ≤ floor) = true := decide_eq_true (by have := of_decide_eq_false hg; omega)
    repeat (first
      | (refine t_skG rfl (by decide) rfl ?_)
      | (refine t_skU rfl (by decide) rfl ?_)
      | (first | refine t_rdG (by decide) rfl (by decide) rfl (fun K hK => ?_) | refine t_rd (by decide) (fun K hK => ?_)
         simp only [Xa, Xb, Xc, Xd, Xe, Xf, Xg, Xh, Xi, Xj, Xk, Xl, Xm, Xn, Xo, Xp, Xq, Xr, Xs, Xt, Xu, Xv, Xw, Xx, Xy, Xz, XA, XB, XD, XE, XF, XG, XH, XI, ev, XJ, upd, args1, args2, args3, args4, XK, XL, XM, extL, XN, XO, XP, XQ, XR, XT, XU, XV, XW, XX, XY, XZ, X0, X1, X2, X3, Addr.add, ↓reduceIte, Nat.reduceLT, Nat.reduceEqDiff, Nat.zero_add, Nat.reduceAdd, Option.map_some, X4, List.getElem_toArray, List.getElem_cons_zero, List.getElem_cons_succ, a1, lF, hg]
         refine hK _ ?_
         clear hK K))
    refine t_done ?_
    refine t_false rfl ?_
    refine t_skip ?_
    obtain ⟨M, q1, q2⟩ := hc1.map
    have hcl := cnt_le floor pre a.key
    have hw1 : IntKind.i64.wrap (getM M a.key + 1) = ((cnt floor pre a.key + 1 : Nat) : Int) := by rw [q2, wrap64] <;> omega
    refine t_seq ?_
    refine t_region ?_
    iterate 3 (first
      | (refine t_skG rfl (by decide) rfl ?_)
      | (refine t_skU rfl (by decide) rfl ?_)
      | (first | refine t_rdG (by decide) rfl (by decide) rfl (fun K hK => ?_) | refine t_rd (by decide) (fun K hK => ?_)
         simp only [Xa, Xb, Xc, Xd, Xe, Xf, Xg, Xh, Xi, Xj, Xk, Xl, Xm, Xn, Xo, Xp, Xq, Xr, Xs, Xt, Xu, Xv, Xw, Xx, Xy, Xz, XA, XB, XD, XE, XF, XG, XH, XI, ev, XJ, upd, args1, args2, args3, args4, XK, XL, XM, extL, XN, XO, XP, XQ, XR, XT, XU, XV, XW, XX, XY, XZ, X0, X1, X2, X3, Addr.add, ↓reduceIte, Nat.reduceLT, Nat.reduceEqDiff, Nat.zero_add, Nat.reduceAdd, Option.map_some, X4, List.getElem_toArray, List.getElem_cons_zero, List.getElem_cons_succ, lM, a0]
         refine hK _ ?_
         clear hK K))
    refine t_lookup (kk := a.key) (by decide) (by simp only [Xa, Xb, Xc, Xd, Xe, Xf, Xg, Xh, Xi, Xj, Xk, Xl, Xm, Xn, Xo, Xp, Xq, Xr, Xs, Xt, Xu, Xv, Xw, Xx, Xy, Xz, XA, XB, XD, XE, XF, XG, XH, XI, ev, XJ, upd, args1, args2, args3, args4, XK, XL, XM, extL, XN, XO, XP, XQ, XR, XT, XU, XV, XW, XX, XY, XZ, X0, X1, X2, X3, Addr.add, ↓reduceIte, Nat.reduceLT, Nat.reduceEqDiff, Nat.zero_add, Nat.reduceAdd, Option.map_some, X4, List.getElem_toArray, List.getElem_cons_zero, List.getElem_cons_succ]) (by simp only [Xa, Xb, Xc, Xd, Xe, Xf, Xg, Xh, Xi, Xj, Xk, Xl, Xm, Xn, Xo, Xp, Xq, Xr, Xs, Xt, Xu, Xv, Xw, Xx, Xy, Xz, XA, XB, XD, XE, XF, XG, XH, XI, ev, XJ, upd, args1, args2, args3, args4, XK, XL, XM, extL, XN, XO, XP, XQ, XR, XT, XU, XV, XW, XX, XY, XZ, X0, X1, X2, X3, Addr.add, ↓reduceIte, Nat.reduceLT, Nat.reduceEqDiff, Nat.zero_add, Nat.reduceAdd, Option.map_some, X4, List.getElem_toArray, List.getElem_cons_zero, List.getElem_cons_succ]) q1 ?_
    intro O2 w2 r2
    iterate 1 (first
      | (refine t_skG rfl (by decide) rfl ?_)
      | (refine t_skU rfl (by decide) rfl ?_)
      | (first | refine t_rdG (by decide) rfl (by decide) rfl (fun K hK => ?_) | refine t_rd (by decide) (fun K hK => ?_)
         simp only [Xa, Xb, Xc, Xd, Xe, Xf, Xg, Xh, Xi, Xj, Xk, Xl, Xm, Xn, Xo, Xp, Xq, Xr, Xs, Xt, Xu, Xv, Xw, Xx, Xy, Xz, XA, XB, XD, XE, XF, XG, XH, XI, ev, XJ, upd, args1, args2, args3, args4, XK, XL, XM, extL, XN, XO, XP, XQ, XR, XT, XU, XV, XW, XX, XY, XZ, X0, X1, X2, X3, Addr.add, ↓reduceIte, Nat.reduceLT, Nat.reduceEqDiff, Nat.zero_add, Nat.reduceAdd, Option.map_some, X4, List.getElem_toArray, List.getElem_cons_zero, List.getElem_cons_succ, hw1]
         refine hK _ ?_
         clear hK K))
    refine t_mapUpdate (kk := a.key) (nn := ((cnt floor pre a.key + 1 : Nat) : Int)) (by decide) (by simp only [Xa, Xb, Xc, Xd, Xe, Xf, Xg, Xh, Xi, Xj, Xk, Xl, Xm, Xn, Xo, Xp, Xq, Xr, Xs, Xt, Xu, Xv, Xw, Xx, Xy, Xz, XA, XB, XD, XE, XF, XG, XH, XI, ev, XJ, upd, args1, args2, args3, args4, XK, XL, XM, extL, XN, XO, XP, XQ, XR, XT, XU, XV, XW, XX, XY, XZ, X0, X1, X2, X3, Addr.add, ↓reduceIte, Nat.reduceLT, Nat.reduceEqDiff, Nat.zero_add, Nat.reduceAdd, Option.map_some, X4, List.getElem_toArray, List.getElem_cons_zero, List.getElem_cons_succ]) (by simp only [Xa, Xb, Xc, Xd, Xe, Xf, Xg, Xh, Xi, Xj, Xk, Xl, Xm, Xn, Xo, Xp, Xq, Xr, Xs, Xt, Xu, Xv, Xw, Xx, Xy, Xz, XA, XB, XD, XE, XF, XG, XH, XI, ev, XJ, upd, args1, args2, args3, args4, XK, XL, XM, extL, XN, XO, XP, XQ, XR, XT, XU, XV, XW, XX, XY, XZ, X0, X1, X2, X3, Addr.add, ↓reduceIte, Nat.reduceLT, Nat.reduceEqDiff, Nat.zero_add, Nat.reduceAdd, Option.map_some, X4, List.getElem_toArray, List.getElem_cons_zero, List.getElem_cons_succ]) (by simp only [Xa, Xb, Xc, Xd, Xe, Xf, Xg, Xh, Xi, Xj, Xk, Xl, Xm, Xn, Xo, Xp, Xq, Xr, Xs, Xt, Xu, Xv, Xw, Xx, Xy, Xz, XA, XB, XD, XE, XF, XG, XH, XI, ev, XJ, upd, args1, args2, args3, args4, XK, XL, XM, extL, XN, XO, XP, XQ, XR, XT, XU, XV, XW, XX, XY, XZ, X0, X1, X2, X3, Addr.add, ↓reduceIte, Nat.reduceLT, Nat.reduceEqDiff, Nat.zero_add, Nat.reduceAdd, Option.map_some, X4, List.getElem_toArray, List.getElem_cons_zero, List.getElem_cons_succ]) (q1.rely r2) ?_
    intro O3 w3 w4 r3 md4 mp4
    refine t_done ?_
    have wk4 : Wk x [m] O1 w1 O3 w4 := (Wk.ofRel (r2.trans r3)).trans (Wk.ofMod md4 (by simp))
    have v44 : Own1 x O3 w4 m4 (.cells a.cells 37 (0, 0)) := v4.wk wk4 (by
      have h1 := n1.ge
      obtain ⟨_, es, cl, h2, _⟩ := hc.map.choose_spec.1
      have := (Array.getElem?_eq_some_iff.1 h2).1
      simp; omega)
    have hc4 : Clo x O3 w4 mF mM mB m floor bottom (pre ++ [a]) := by
      refine ⟨hc1.f.wk wk4 (by simpa using hc1.nF), hc1.mp.wk wk4 (by simpa using hc1.nM), hc1.b.wk wk4 (by simpa using hc1.nB), ⟨_, mp4, fun k => ?_⟩, hc1.nF, hc1.nM, hc1.nB⟩
      rw [getM_set, cnt_snoc, hle, Bool.and_true]
      by_cases hk : k = a.key
      · subst hk; simp
      · rw [if_neg hk, q2]
        have : (a.key == k) = false := by simpa using fun e => hk e.symm
        simp [this]
    have b0 := v44.ld (i := 0) (v := .string a.key) rfl
    have b2 := v44.ld (i := 2) (v := .bool a.del) rfl
    have kM := hc4.mp.ld (i := 0) (v := .map (some m)) rfl
    have kB := hc4.b.ld (i := 0) (v := .bool bottom) rfl
    replace h := h O3 w4 ((Wk.ofRel n1.rel).trans wk4) hc4
    have hget : getM (setM M a.key ((cnt floor pre a.key + 1 : Nat) : Int)) a.key = ((cnt floor pre a.key + 1 : Nat) : Int) := by rw [getM_set, if_pos rfl]
    refine t_seq ?_
    refine t_region ?_
    iterate 3 (first
      | (refine t_skG rfl (by decide) rfl ?_)
      | (refine t_skU rfl (by decide) rfl ?_)
      | (first | refine t_rdG (by decide) rfl (by decide) rfl (fun K hK => ?_) | refine t_rd (by decide) (fun K hK => ?_)
         simp only [Xa, Xb, Xc, Xd, Xe, Xf, Xg, Xh, Xi, Xj, Xk, Xl, Xm, Xn, Xo, Xp, Xq, Xr, Xs, Xt, Xu, Xv, Xw, Xx, Xy, Xz, XA, XB, XD, XE, XF, XG, XH, XI, ev, XJ, upd, args1, args2, args3, args4, XK, XL, XM, extL, XN, XO, XP, XQ, XR, XT, XU, XV, XW, XX, XY, XZ, X0, X1, X2, X3, Addr.add, ↓reduceIte, Nat.reduceLT, Nat.reduceEqDiff, Nat.zero_add, Nat.reduceAdd, Option.map_some, X4, List.getElem_toArray, List.getElem_cons_zero, List.getElem_cons_succ, kM, b0]
         refine hK _ ?_
         clear hK K))
    refine t_lookup (kk := a.key) (by decide) (by simp only [Xa, Xb, Xc, Xd, Xe, Xf, Xg, Xh, Xi, Xj, Xk, Xl, Xm, Xn, Xo, Xp, Xq, Xr, Xs, Xt, Xu, Xv, Xw, Xx, Xy, Xz, XA, XB, XD, XE, XF, XG, XH, XI, ev, XJ, upd, args1, args2, args3, args4, XK, XL, XM, extL, XN, XO, XP, XQ, XR, XT, XU, XV, XW, XX, XY, XZ, X0, X1, X2, X3, Addr.add, ↓reduceIte, Nat.reduceLT, Nat.reduceEqDiff, Nat.zero_add, Nat.reduceAdd, Option.map_some, X4, List.getElem_toArray, List.getElem_cons_zero, List.getElem_cons_succ]) (by simp only [Xa, Xb, Xc, Xd, Xe, Xf, Xg, Xh, Xi, Xj, Xk, Xl, Xm, Xn, Xo, Xp, Xq, Xr, Xs, Xt, Xu, Xv, Xw, Xx, Xy, Xz, XA, XB, XD, XE, XF, XG, XH, XI, ev, XJ, upd, args1, args2, args3, args4, XK, XL, XM, extL, XN, XO, XP, XQ, XR, XT, XU, XV, XW, XX, XY, XZ, X0, X1, X2, X3, Addr.add, ↓reduceIte, Nat.reduceLT, Nat.reduceEqDiff, Nat.zero_add, Nat.reduceAdd, Option.map_some, X4, List.getElem_toArray, List.getElem_cons_zero, List.getElem_cons_succ]) mp4 ?_
    rw [hget]
    intro O5 w5 r5
    replace h := h.rely r5
    have b2 := ldOf_rely r5 b2
    have kB := ldOf_rely r5 kB
    by_cases hpos : 0 < cnt floor pre a.key
    · have hd1 : decide ((1 : Int) < ((cnt floor pre a.key + 1 : Nat) : Int)) = true := decide_eq_true (by omega)
      repeat (first
        | (refine t_skG rfl (by decide) rfl ?_)
        | (refine t_skU rfl (by decide) rfl ?_)
        | (first | refine t_rdG (by decide) rfl (by decide) rfl (fun K hK => ?_) | refine t_rd (by decide) (fun K hK => ?_)
           simp only [Xa, Xb, Xc, Xd, Xe, Xf, Xg, Xh, Xi, Xj, Xk, Xl, Xm, Xn, Xo, Xp, Xq, Xr, Xs, Xt, Xu, Xv, Xw, Xx, Xy, Xz, XA, XB, XD, XE, XF, XG, XH, XI, ev, XJ, upd, args1, args2, args3, args4, XK, XL, XM, extL, XN, XO, XP, XQ, XR, XT, XU, XV, XW, XX, XY, XZ, X0, X1, X2, X3, Addr.add, ↓reduceIte, Nat.reduceLT, Nat.reduceEqDiff, Nat.zero_add, Nat.reduceAdd, Option.map_some, X4, List.getElem_toArray, List.getElem_cons_zero, List.getElem_cons_succ, hd1]
           refine hK _ ?_
           clear hK K))
      refine t_done ?_
      refine t_ret ?_
      refine t_leave1 rfl Try.func34 Try.results34 ?_
      rw [show delAt floor bottom pre a = true by unfold delAt; rw [hg]; simp [hpos]] at h
      exact h
    · have hd1 : decide ((1 : Int) < ((cnt floor pre a.key + 1 : Nat) : Int)) = false := decide_eq_false (by omega)
      cases hbo : bottom with
      | false =>
        rw [hbo] at kB
        repeat (first
          | (refine t_skG rfl (by decide) rfl ?_)
          | (refine t_skU rfl (by decide) rfl ?_)
          | (first | refine t_rdG (by decide) rfl (by decide) rfl (fun K hK => ?_) | refine t_rd (by decide) (fun K hK => ?_)
             simp only [Xa, Xb, Xc, Xd, Xe, Xf, Xg, Xh, Xi, Xj, Xk, Xl, Xm, Xn, Xo, Xp, Xq, Xr, Xs, Xt, Xu, Xv, Xw, Xx, Xy, Xz, XA, XB, XD, XE, XF, XG, XH, XI, ev, XJ, upd, args1, args2, args3, args4, XK, XL, XM, extL, XN, XO, XP, XQ, XR, XT, XU, XV, XW, XX, XY, XZ, X0, X1, X2, X3, Addr.add, ↓reduceIte, Nat.reduceLT, Nat.reduceEqDiff, Nat.zero_add, Nat.reduceAdd, Option.map_some, X4, List.getElem_toArray, List.getElem_cons_zero, List.getElem_cons_succ, hd1, kB]
             refine hK _ ?_
             clear hK K))
        refine t_done ?_
        refine t_ret ?_
        refine t_leave1 rfl Try.func34 Try.results34 ?_
        rw [show delAt floor bottom pre a = false by unfold delAt; rw [hg, hbo]; simp [hpos]] at h
        exact h
      | true =>
        rw [hbo] at kB
        cases hdl : a.del with
        | false =>
          rw [hdl] at b2
          repeat (first
            | (refine t_skG rfl (by decide) rfl ?_)
            | (refine t_skU rfl (by decide) rfl ?_)
            | (first | refine t_rdG (by decide) rfl (by decide) rfl (fun K hK => ?_) | refine t_rd (by decide) (fun K hK => ?_)
               simp only [Xa, Xb, Xc, Xd, Xe, Xf, Xg, Xh, Xi, Xj, Xk, Xl, Xm, Xn, Xo, Xp, Xq, Xr, Xs, Xt, Xu, Xv, Xw, Xx, Xy, Xz, XA, XB, XD, XE, XF, XG, XH, XI, ev, XJ, upd, args1, args2, args3, args4, XK, XL, XM, extL, XN, XO, XP, XQ, XR, XT, XU, XV, XW, XX, XY, XZ, X0, X1, X2, X3, Addr.add, ↓reduceIte, Nat.reduceLT, Nat.reduceEqDiff, Nat.zero_add, Nat.reduceAdd, Option.map_some, X4, List.getElem_toArray, List.getElem_cons_zero, List.getElem_cons_succ, hd1, kB, b2]
               refine hK _ ?_
               clear hK K))
          refine t_done ?_
          refine t_ret ?_
          refine t_leave1 rfl Try.func34 Try.results34 ?_
          rw [show delAt floor bottom pre a = false by unfold delAt; rw [hg, hbo, hdl]; simp [hpos]] at h
          exact h
        | true =>
          rw [hdl] at b2
          repeat (first
            | (refine t_skG rfl (by decide) rfl ?_)
            | (refine t_skU rfl (by decide) rfl ?_)
            | (first | refine t_rdG (by decide) rfl (by decide) rfl (fun K hK => ?_) | refine t_rd (by decide) (fun K hK => ?_)
               simp only [Xa, Xb, Xc, Xd, Xe, Xf, Xg, Xh, Xi, Xj, Xk, Xl, Xm, Xn, Xo, Xp, Xq, Xr, Xs, Xt, Xu, Xv, Xw, Xx, Xy, Xz, XA, XB, XD, XE, XF, XG, XH, XI, ev, XJ, upd, args1, args2, args3, args4, XK, XL, XM, extL, XN, XO, XP, XQ, XR, XT, XU, XV, XW, XX, XY, XZ, X0, X1, X2, X3, Addr.add, ↓reduceIte, Nat.reduceLT, Nat.reduceEqDiff, Nat.zero_add, Nat.reduceAdd, Option.map_some, X4, List.getElem_toArray, List.getElem_cons_zero, List.getElem_cons_succ, hd1, kB, b2]
               refine hK _ ?_
               clear hK K))
          refine t_done ?_
          refine t_ret ?_
          refine t_leave1 rfl Try.func34 Try.results34 ?_
          rw [show delAt floor bottom pre a = true by unfold delAt; rw [hg, hbo, hdl]; simp [hpos]] at h
          exact h
end Go.Proofs.Ytdajdembeacefaa.M

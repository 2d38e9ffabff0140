/-
  THE CALCULUS, 10: steps that are the same in every world and list nothing, for whatever predicate of goroutines bears them ('Ctl'). Instances: a walk ('Tree'), a slip behind the release ('Slip'), what only leaves ('QuitsD').
-/
import Derived.Test.YtdajdembeacefaaAB
import Derived.Test.YtdajdembeacefaaN
set_option linter.unusedSimpArgs false
set_option linter.unusedVariables false
namespace Go.Proofs.Ytdajdembeacefaa.M
open Go.Conc

/-- Steps that are the same in every world and list nothing are borne. -/
def Ctl (main : Bool) (W : Goroutine → Prop) : Prop := ∀ g g' : Goroutine, g.status = .running → (∀ w, stepG P main g w = .go g' w #[]) → W g' → W g

theorem ctl_tree (x : Th) (St : Gh → Goroutine → World → Prop) (O : Gh) (w : World) : Ctl (x.id == 0) (fun g => Tree P x St O g w) := fun _ _ hs h hT => t_ctl hs h hT
def SlipE (St : Nat → Goroutine → Prop) (d : Nat) (g : Goroutine) : Prop := ∃ q, Slip P St q d g
def QuitE (d : Nat) (g : Goroutine) : Prop := ∃ q, QuitsD P q d g
theorem SlipE.stop {St : Nat → Goroutine → Prop} {d : Nat} {g : Goroutine} (h : St d g) : SlipE St d g := ⟨0, h⟩
theorem SlipE.said {St : Nat → Goroutine → Prop} {d : Nat} {g g' : Goroutine} {es : Array Event} (hs : g.status = .running) (hm : ∀ e ∈ es, Event.mute e = true) (h : ∀ w, stepG P false g w = .go g' w es) (hT : SlipE St (deafBehind d es) g') : SlipE St d g := by
  obtain ⟨q, hq⟩ := hT
  exact ⟨q + 1, .inr ⟨hs, g', es, hm, h, hq⟩⟩
theorem QuitE.said {d : Nat} {g g' : Goroutine} {es : Array Event} (hs : g.status = .running) (hm : ∀ e ∈ es, Event.mute e = true) (h : ∀ w, stepG P false g w = .go g' w es) (hT : QuitE (deafBehind d es) g') : QuitE d g := by
  obtain ⟨q, hq⟩ := hT
  exact ⟨q + 1, .inr ⟨hs, g', es, hm, h, hq⟩⟩
theorem ctl_slip (St : Nat → Goroutine → Prop) (d : Nat) : Ctl false (SlipE St d) := fun _ _ hs h hT => SlipE.said hs (by simp) h hT
theorem ctl_quit (d : Nat) : Ctl false (QuitE d) := fun _ _ hs h hT => QuitE.said hs (by simp) h hT

section
variable {main : Bool} {W : Goroutine → Prop} {b : Frame} {n : Nat} {f f' : Nat → Value} {ds : List Deferred} {k : List Item} {cs : List Frame}

theorem c_seq (hW : Ctl main W) {c d : Code} (h : W (G (Fr b n f ds (.code c :: .code d :: k)) cs)) : W (G (Fr b n f ds (.code (.seq c d) :: k)) cs) := hW _ _ rfl (fun _ => stepG_seq) h
theorem c_skip (hW : Ctl main W) (h : W (G (Fr b n f ds k) cs)) : W (G (Fr b n f ds (.code .skip :: k)) cs) := hW _ _ rfl (fun _ => stepG_skip) h
theorem c_block (hW : Ctl main W) {i : Nat} {c : Code} (h : W (G (Fr b n f ds (.code c :: .inBlock i :: k)) cs)) : W (G (Fr b n f ds (.code (.block i c) :: k)) cs) := hW _ _ rfl (fun _ => stepG_block) h
theorem c_inBlock (hW : Ctl main W) {i : Nat} (h : W (G (Fr b n f ds k) cs)) : W (G (Fr b n f ds (.inBlock i :: k)) cs) := hW _ _ rfl (fun _ => stepG_inBlock) h
theorem c_loop (hW : Ctl main W) {c : Code} (h : W (G (Fr b n f ds (.code c :: .inLoop c :: k)) cs)) : W (G (Fr b n f ds (.code (.loop c) :: k)) cs) := hW _ _ rfl (fun _ => stepG_loop) h
theorem c_inLoop (hW : Ctl main W) {c : Code} (h : W (G (Fr b n f ds (.code c :: .inLoop c :: k)) cs)) : W (G (Fr b n f ds (.inLoop c :: k)) cs) := hW _ _ rfl (fun _ => stepG_inLoop) h
theorem c_exit (hW : Ctl main W) {i : Nat} {k' : List Item} (e : exitTo i k = some k') (h : W (G (Fr b n f ds k') cs)) : W (G (Fr b n f ds (.code (.exit i) :: k)) cs) := hW _ _ rfl (fun _ => stepG_exit e) h
theorem c_cond (hW : Ctl main W) {c : Operand} {y z : Code} (t : Bool) (hc : ev n f c = .bool t) (h : W (G (Fr b n f ds (.code (if t then y else z) :: k)) cs)) : W (G (Fr b n f ds (.code (.cond c y z) :: k)) cs) :=
  hW _ _ rfl (fun _ => stepG_cond (a := ⟨mkT n f, ds⟩) (by rw [eval_mkT]; exact hc)) h
theorem c_true (hW : Ctl main W) {c : Operand} {y z : Code} (hc : ev n f c = .bool true) (h : W (G (Fr b n f ds (.code y :: k)) cs)) : W (G (Fr b n f ds (.code (.cond c y z) :: k)) cs) := c_cond hW true hc h
theorem c_false (hW : Ctl main W) {c : Operand} {y z : Code} (hc : ev n f c = .bool false) (h : W (G (Fr b n f ds (.code z :: k)) cs)) : W (G (Fr b n f ds (.code (.cond c y z) :: k)) cs) := c_cond hW false hc h
theorem c_ret (hW : Ctl main W) (h : W (G { Fr b n f ds (.code .ret :: k) with mode := .returning } cs)) : W (G (Fr b n f ds (.code .ret :: k)) cs) := hW _ _ rfl (fun _ => stepG_ret') h
theorem c_end (hW : Ctl main W) (h : W (G { Fr b n f ds [] with mode := .returning } cs)) : W (G (Fr b n f ds []) cs) := hW _ _ rfl (fun _ => stepG_end) h

/-- In a region whose order is the text's. -/
def InC (W : Goroutine → Prop) (b : Frame) (n : Nat) (f : Nat → Value) (ds : List Deferred) (all : List Oper) (k : List Item) (cs : List Frame) (i : Nat) (os : List Oper) : Prop :=
  all.drop i = os → W (G (Fr b n f ds (.inRegion all.toArray (List.range' i os.length) :: k)) cs)
variable {all os : List Oper} {i : Nat} {o : Oper}
theorem c_region (hW : Ctl main W) {id : Nat} (h : InC W b n f ds all k cs 0 all) : W (G (Fr b n f ds (.code (.region id all.toArray false) :: k)) cs) := by
  refine hW _ _ rfl (fun _ => stepG_region) ?_
  rw [List.size_toArray, List.range_eq_range']
  exact h rfl
theorem c_done (hW : Ctl main W) (h : W (G (Fr b n f ds k) cs)) : InC W b n f ds all k cs i [] := fun _ => hW _ _ rfl (fun _ => stepG_region_end) h
theorem c_rd0 (hW : Ctl main W) {rest : List Nat} {ops : Array Oper} (hk : b.kind ≠ .early) (ho : ops[i]? = some o) (hw : Region.wanted o (yielded ops (mkT n f)) = true)
    (h : ∀ K : Value → Prop, (∀ v, W (G (Fr b n (put f o.dst v) ds (.inRegion ops rest :: k)) cs) → K v) → opThen (runL P (fun _ => none) (execOp (ev n f) o)) K) :
    W (G (Fr b n f ds (.inRegion ops (i :: rest) :: k)) cs) := by
  have := h _ (fun _ h => h)
  cases hr : runL P (fun _ => none) (execOp (ev n f) o) with
  | none => rw [hr] at this; exact this.elim
  | some z =>
    rw [hr] at this
    cases z with
    | value v =>
      refine hW _ _ rfl (fun w => ?_) this
      obtain ⟨h1, h2⟩ := runL_sound (w := w) (L := fun _ => none) (fun _ _ h => by cases h) _ _ hr
      rw [← eval_mkT n f ds] at h1 h2
      have hst := stepG_value (main := main) (b := b) (a := ⟨mkT n f, ds⟩) (k := k) (cs := cs) (rest := rest) ho hw hk h1
      rw [put_mkT] at hst
      have hl : listed P b.fn ⟨mkT n f, ds⟩ o w = #[] := by
        apply Array.eq_empty_iff_forall_not_mem.2
        intro e he
        rcases h2 #[] e (mem_listed he) with h3 | h3
        · simp at h3
        · obtain ⟨a, v, _, h⟩ := h3; cases h
      rw [hl] at hst
      exact hst
    | _ => exact this.elim
variable {d : Nat} {op : Op} {t : TypeId} {p : String} {e : Array Edge}
theorem c_rd (hW : Ctl main W) (hk : b.kind ≠ .early)
    (h : ∀ K : Value → Prop, (∀ v, InC W b n (upd f d v) ds all k cs (i + 1) os → K v) → opThen (runL P (fun _ => none) (execOp (ev n f) ⟨some d, op, t, p, e, none⟩)) K) :
    InC W b n f ds all k cs i (⟨some d, op, t, p, e, none⟩ :: os) := by
  intro e
  obtain ⟨h1, h2⟩ := drop_get e
  rw [List.length_cons, List.range'_succ]
  exact c_rd0 hW hk h1 rfl fun K hK => h K fun v hv => hK v (hv h2)
theorem c_rdG (hW : Ctl main W) {j d' : Nat} {z : Bool} (hk : b.kind ≠ .early) (hj : (all.toArray[j]?).bind (·.dst) = some d') (hd : d' < n) (hv : f d' = .bool z)
    (h : ∀ K : Value → Prop, (∀ v, InC W b n (upd f d v) ds all k cs (i + 1) os → K v) → opThen (runL P (fun _ => none) (execOp (ev n f) ⟨some d, op, t, p, e, some (j, z)⟩)) K) :
    InC W b n f ds all k cs i (⟨some d, op, t, p, e, some (j, z)⟩ :: os) := by
  intro e
  obtain ⟨h1, h2⟩ := drop_get e
  rw [List.length_cons, List.range'_succ]
  exact c_rd0 hW hk h1 (by rw [wanted_of rfl hj hd hv]; cases z <;> rfl) fun K hK => h K fun v hv => hK v (hv h2)
theorem c_skG (hW : Ctl main W) {j d' : Nat} {z : Bool} (hj : (all.toArray[j]?).bind (·.dst) = some d') (hd : d' < n) (hv : f d' = .bool (!z))
    (h : InC W b n (upd f d undef) ds all k cs (i + 1) os) : InC W b n f ds all k cs i (⟨some d, op, t, p, e, some (j, z)⟩ :: os) := by
  intro e
  obtain ⟨h1, h2⟩ := drop_get e
  rw [List.length_cons, List.range'_succ]
  refine hW _ _ rfl (fun w => ?_) (h h2)
  have := stepG_unwanted (P := P) (main := main) (b := b) (a := ⟨mkT n f, ds⟩) (k := k) (cs := cs) (w := w) (rest := List.range' (i + 1) os.length) h1 (by rw [wanted_of rfl hj hd hv]; cases z <;> rfl)
  rw [put_mkT] at this
  exact this
theorem c_skU (hW : Ctl main W) {j d' : Nat} {z : Bool} (hj : (all.toArray[j]?).bind (·.dst) = some d') (hd : d' < n) (hv : f d' = undef)
    (h : InC W b n (upd f d undef) ds all k cs (i + 1) os) : InC W b n f ds all k cs i (⟨some d, op, t, p, e, some (j, z)⟩ :: os) := by
  intro e
  obtain ⟨h1, h2⟩ := drop_get e
  rw [List.length_cons, List.range'_succ]
  refine hW _ _ rfl (fun w => ?_) (h h2)
  have := stepG_unwanted (P := P) (main := main) (b := b) (a := ⟨mkT n f, ds⟩) (k := k) (cs := cs) (w := w) (rest := List.range' (i + 1) os.length) h1 (by unfold Region.wanted; simp only [yielded_mkT, hj, hd, if_true, hv, undef]; cases z <;> rfl)
  rw [put_mkT] at this
  exact this
theorem c_val (hW : Ctl main W) {v : Value} (hk : b.kind ≠ .early) (hr : runL P (fun _ => none) (execOp (ev n f) ⟨some d, op, t, p, e, none⟩) = some (.value v))
    (h : InC W b n (upd f d v) ds all k cs (i + 1) os) : InC W b n f ds all k cs i (⟨some d, op, t, p, e, none⟩ :: os) :=
  c_rd hW hk fun K hK => by rw [hr]; exact hK v h
/-- Here the step is no control. -/
theorem c_here (h : ∀ rest, all.toArray[i]? = some o → (∀ W' : Goroutine → Prop, ∀ f' ds', InC W' b n f' ds' all k cs (i + 1) os → W' (G (Fr b n f' ds' (.inRegion all.toArray rest :: k)) cs)) → W (G (Fr b n f ds (.inRegion all.toArray (i :: rest) :: k)) cs)) :
    InC W b n f ds all k cs i (o :: os) := by
  intro e
  obtain ⟨h1, h2⟩ := drop_get e
  rw [List.length_cons, List.range'_succ]
  exact h _ h1 fun W' f' ds' hW' => hW' h2

/-- A call of a function that has a body. -/
theorem c_call (hW : Ctl main W) {fn : FuncId} {F : Func} {args : Array Operand} {ats : Array TypeId} (vals : Array Value) (hk : b.kind ≠ .early)
    (hf : P.funcs[fn]? = some F) (hname : (F.name == "runtime.NumGoroutine") = false) (hb : F.body.isNone = false) (has : args.map (ev n f) = vals)
    (h : ∀ c, (∀ (W' : Goroutine → Prop) (v : Value), InC W' b n (upd f d v) ds all k cs (i + 1) os → W' (G (c.finish v) cs)) → W (G (Frame.enter P fn vals .normal) (c :: cs))) :
    InC W b n f ds all k cs i (⟨some d, .call { callee := .value (.func fn), args, argTypes := ats }, t, p, e, none⟩ :: os) := by
  subst has
  intro ee
  obtain ⟨h1, h2⟩ := drop_get ee
  rw [List.length_cons, List.range'_succ]
  refine hW _ _ rfl (fun w => ?_) (h (Fr b n f ds (.inRegion all.toArray (i :: List.range' (i + 1) os.length) :: k)) fun W' v hv => ?_)
  · have := stepG_enter (P := P) (main := main) (b := b) (a := ⟨mkT n f, ds⟩) (k := k) (cs := cs) (w := w) (rest := List.range' (i + 1) os.length) h1 rfl hk (run_call_body rfl hf hname hb)
    have hl : listed P b.fn ⟨mkT n f, ds⟩ ⟨some d, .call { callee := .value (.func fn), args, argTypes := ats }, t, p, e, none⟩ w = #[] := by unfold listed; rw [events_call_body rfl hf hname hb]; exact seen_none P _
    rw [hl, eval_mkT] at this
    exact this
  · unfold Fr
    rw [Frame.finish_at, put_mkT, h1]
    exact hv h2
theorem c_leave1 (hW : Ctl main W) {F : Func} {todo : List Item} {c : Frame} {t : Tmp} (hn : b.kind = .normal) (hf : P.funcs[b.fn]? = some F) (hr : F.results = #[.tmp t])
    (h : W (G (c.finish (ev n f (.tmp t))) cs)) : W (G { Fr b n f [] todo with mode := .returning } (c :: cs)) := by
  refine hW _ _ rfl (fun w => stepG_leave (a := ⟨mkT n f, []⟩) hn rfl hf ?_ (events_results_tmp hr _ _)) h
  rw [results_tmp hr _ P w, mkT_getD]; rfl
theorem c_leave0 (hW : Ctl main W) {F : Func} {todo : List Item} {c : Frame} (hn : b.kind = .normal) (hf : P.funcs[b.fn]? = some F) (hr : F.results = #[])
    (h : W (G (c.finish (.tuple #[])) cs)) : W (G { Fr b n f [] todo with mode := .returning } (c :: cs)) :=
  hW _ _ rfl (fun w => stepG_leave (a := ⟨mkT n f, []⟩) hn rfl hf (results_none hr _ P w) (events_results_none hr _ _)) h
/-- The return of a deferred call without results. -/
theorem c_leaveD (hW : Ctl main W) {F : Func} {todo : List Item} {c : Frame} (hn : b.kind = .deferred) (hf : P.funcs[b.fn]? = some F) (hr : F.results = #[]) (hc : c.mode = .returning)
    (h : W (G c cs)) : W (G { Fr b n f [] todo with mode := .returning } (c :: cs)) :=
  hW _ _ rfl (fun w => stepG_leave_deferred (a := ⟨mkT n f, []⟩) hn rfl hf (results_none hr _ P w) (events_results_none hr _ _) hc) h
theorem c_defer (hW : Ctl main W) {fn : FuncId} {args : Array Operand} {ats : Array TypeId} {vals : Array Value} (hk : b.kind ≠ .early) (hv : args.map (ev n f) = vals)
    (h : InC W b n f (dcall fn vals :: ds) all k cs (i + 1) os) :
    InC W b n f ds all k cs i (⟨none, .defer { callee := .value (.func fn), args, argTypes := ats }, t, p, e, none⟩ :: os) := by
  intro ee
  obtain ⟨h1, h2⟩ := drop_get ee
  rw [List.length_cons, List.range'_succ]
  refine hW _ _ rfl (fun w => ?_) (h h2)
  have := stepG_defer (P := P) (main := main) (b := b) (a := ⟨mkT n f, ds⟩) (k := k) (cs := cs) (w := w) (rest := List.range' (i + 1) os.length) h1 rfl hk rfl
  rw [eval_mkT, hv] at this
  exact this
theorem c_entryPure (hW : Ctl main W) {fn : FuncId} {F : Func} {args : Array Operand} {ats : Array TypeId} (v : Value) (hk : b.kind ≠ .early) (hf : P.funcs[fn]? = some F) (hname : (F.name == "runtime.NumGoroutine") = false)
    (hb : F.body.isNone = true) (hn : Extern.findNext F = none) (he : Extern.find F = some (fun _ => pure v))
    (h : InC W b n (upd f d v) ds all k cs (i + 1) os) :
    InC W b n f ds all k cs i (⟨some d, .call { callee := .value (.func fn), args, argTypes := ats }, t, p, e, none⟩ :: os) := by
  intro ee
  obtain ⟨h1, h2⟩ := drop_get ee
  rw [List.length_cons, List.range'_succ]
  refine hW _ _ rfl (fun w => ?_) (h h2)
  have := stepG_entry_pure (P := P) (main := main) (b := b) (a := ⟨mkT n f, ds⟩) (kk := k) (cs := cs) (w := w) (rest := List.range' (i + 1) os.length) v h1 rfl hk rfl hf hname hb hn he
  rw [put_mkT] at this
  exact this

/-! ### marks, behind the release -/
theorem mute_mark {m : Mark} (hm : m = .disable ∨ m = .enable) : ∀ e ∈ (#[⟨.mark m, false, true⟩] : Array Event), Event.mute e = true := by
  intro e he; simp at he; subst he; rcases hm with rfl | rfl <;> rfl
theorem step_mark0 {fn : FuncId} {F : Func} {args : Array Operand} {ats : Array TypeId} {rest : List Nat} (m : Mark) (hm : m = .disable ∨ m = .enable) (hk : b.kind ≠ .early) (hf : P.funcs[fn]? = some F) (hname : (F.name == "runtime.NumGoroutine") = false)
    (hb : F.body.isNone = true) (hn : Extern.findNext F = none) (he : Extern.find F = some (fun _ => do Go.mark m; pure Extern.Race.none_))
    (ho : all.toArray[i]? = some ⟨some d, .call { callee := .value (.func fn), args, argTypes := ats }, t, p, e, none⟩) (w : World) :
    stepG P main (G (Fr b n f ds (.inRegion all.toArray (i :: rest) :: k)) cs) w = .go (G (Fr b n (upd f d (.tuple #[])) ds (.inRegion all.toArray rest :: k)) cs) w #[⟨.mark m, false, true⟩] := by
  have hst := stepG_mark0 (P := P) (main := main) (b := b) (a := ⟨mkT n f, ds⟩) (kk := k) (cs := cs) (w := w) (rest := rest) m (by rcases hm with rfl | rfl <;> simp) ho rfl hk rfl hf hname hb hn he
  rw [put_mkT] at hst
  exact hst
theorem s_mark0 {St : Nat → Goroutine → Prop} {q : Nat} {fn : FuncId} {F : Func} {args : Array Operand} {ats : Array TypeId} (m : Mark) (hm : m = .disable ∨ m = .enable) (hk : b.kind ≠ .early) (hf : P.funcs[fn]? = some F) (hname : (F.name == "runtime.NumGoroutine") = false)
    (hb : F.body.isNone = true) (hn : Extern.findNext F = none) (he : Extern.find F = some (fun _ => do Go.mark m; pure Extern.Race.none_))
    (h : InC (SlipE St (deafBehind q #[⟨.mark m, false, true⟩])) b n (upd f d (.tuple #[])) ds all k cs (i + 1) os) :
    InC (SlipE St q) b n f ds all k cs i (⟨some d, .call { callee := .value (.func fn), args, argTypes := ats }, t, p, e, none⟩ :: os) :=
  c_here fun rest ho hgo => SlipE.said rfl (mute_mark hm) (fun w => step_mark0 m hm hk hf hname hb hn he ho w) (hgo _ _ _ h)
theorem step_unwind_mark {fn : FuncId} {F : Func} {todo : List Item} (m : Mark) (hm : m = .disable ∨ m = .enable) (hf : P.funcs[fn]? = some F) (hname : (F.name == "runtime.NumGoroutine") = false)
    (hb : F.body.isNone = true) (hn : Extern.findNext F = none) (he : Extern.find F = some (fun _ => do Go.mark m; pure Extern.Race.none_)) (w : World) :
    stepG P main (G { Fr b n f (dcall fn #[] :: ds) todo with mode := .returning } cs) w = .go (G { Fr b n f ds todo with mode := .returning } cs) w #[⟨.mark m, false, true⟩] :=
  stepG_unwind_entry (P := P) (main := main) (b := b) (a := ⟨mkT n f, dcall fn #[] :: ds⟩) (cs := cs) (w := w) (todo := todo) (v := .tuple #[]) (w' := w) rfl hf hname hb hn he (evs := #[⟨.mark m, false, true⟩]) (by simp [Extern.Race.none_]) (by simp) (by
    intro y hy
    simp at hy; subst hy
    exact ⟨rfl, fun g h => by rcases hm with rfl | rfl <;> cases h⟩)
theorem q_unwind_mark {fn : FuncId} {F : Func} {todo : List Item} {q : Nat} (m : Mark) (hm : m = .disable ∨ m = .enable) (hf : P.funcs[fn]? = some F) (hname : (F.name == "runtime.NumGoroutine") = false)
    (hb : F.body.isNone = true) (hn : Extern.findNext F = none) (he : Extern.find F = some (fun _ => do Go.mark m; pure Extern.Race.none_))
    (h : QuitE (deafBehind q #[⟨.mark m, false, true⟩]) (G { Fr b n f ds todo with mode := .returning } cs)) :
    QuitE q (G { Fr b n f (dcall fn #[] :: ds) todo with mode := .returning } cs) :=
  QuitE.said rfl (mute_mark hm) (fun w => step_unwind_mark m hm hf hname hb hn he w) h
end
end Go.Proofs.Ytdajdembeacefaa.M

/-
  THE CALCULUS, 3: control, calls, allocation, stores. No condition.
-/
import Derived.Test.YtdajdembeacefaaB
set_option linter.unusedSimpArgs false
set_option linter.unusedVariables false
namespace Go.Proofs.Ytdajdembeacefaa.M
open Go.Conc

section
variable {P : Program} {x : Th} {St : Gh → Goroutine → World → Prop} {O : Gh} {w : World} {b : Frame} {n : Nat} {f : Nat → Value} {ds : List Deferred} {ops : Array Oper} {k : List Item} {cs : List Frame}

theorem t_seq {c d : Code} (h : Tree P x St O (G (Fr b n f ds (.code c :: .code d :: k)) cs) w) : Tree P x St O (G (Fr b n f ds (.code (.seq c d) :: k)) cs) w :=
  t_ctl rfl (fun _ => stepG_seq) h
theorem t_skip (h : Tree P x St O (G (Fr b n f ds k) cs) w) : Tree P x St O (G (Fr b n f ds (.code .skip :: k)) cs) w := t_ctl rfl (fun _ => stepG_skip) h
theorem t_label {l : Nat} (h : Tree P x St O (G (Fr b n f ds k) cs) w) : Tree P x St O (G (Fr b n f ds (.code (.label l) :: k)) cs) w := t_ctl rfl (fun _ => stepG_label) h
theorem t_block {i : Nat} {c : Code} (h : Tree P x St O (G (Fr b n f ds (.code c :: .inBlock i :: k)) cs) w) : Tree P x St O (G (Fr b n f ds (.code (.block i c) :: k)) cs) w := t_ctl rfl (fun _ => stepG_block) h
theorem t_inBlock {i : Nat} (h : Tree P x St O (G (Fr b n f ds k) cs) w) : Tree P x St O (G (Fr b n f ds (.inBlock i :: k)) cs) w := t_ctl rfl (fun _ => stepG_inBlock) h
theorem t_loop {c : Code} (h : Tree P x St O (G (Fr b n f ds (.code c :: .inLoop c :: k)) cs) w) : Tree P x St O (G (Fr b n f ds (.code (.loop c) :: k)) cs) w := t_ctl rfl (fun _ => stepG_loop) h
theorem t_inLoop {c : Code} (h : Tree P x St O (G (Fr b n f ds (.code c :: .inLoop c :: k)) cs) w) : Tree P x St O (G (Fr b n f ds (.inLoop c :: k)) cs) w := t_ctl rfl (fun _ => stepG_inLoop) h
theorem t_exit {i : Nat} {k' : List Item} (e : exitTo i k = some k') (h : Tree P x St O (G (Fr b n f ds k') cs) w) : Tree P x St O (G (Fr b n f ds (.code (.exit i) :: k)) cs) w := t_ctl rfl (fun _ => stepG_exit e) h
theorem t_cond {c : Operand} {y z : Code} (t : Bool) (hc : ev n f c = .bool t) (h : Tree P x St O (G (Fr b n f ds (.code (if t then y else z) :: k)) cs) w) : Tree P x St O (G (Fr b n f ds (.code (.cond c y z) :: k)) cs) w :=
  t_ctl rfl (fun _ => stepG_cond (a := ⟨mkT n f, ds⟩) (by rw [eval_mkT]; exact hc)) h
theorem t_true {c : Operand} {y z : Code} (hc : ev n f c = .bool true) (h : Tree P x St O (G (Fr b n f ds (.code y :: k)) cs) w) : Tree P x St O (G (Fr b n f ds (.code (.cond c y z) :: k)) cs) w := t_cond true hc h
theorem t_false {c : Operand} {y z : Code} (hc : ev n f c = .bool false) (h : Tree P x St O (G (Fr b n f ds (.code z :: k)) cs) w) : Tree P x St O (G (Fr b n f ds (.code (.cond c y z) :: k)) cs) w := t_cond false hc h
theorem t_ret (h : Tree P x St O (G { Fr b n f ds (.code .ret :: k) with mode := .returning } cs) w) : Tree P x St O (G (Fr b n f ds (.code .ret :: k)) cs) w := t_ctl rfl (fun _ => stepG_ret') h
theorem t_end (h : Tree P x St O (G { Fr b n f ds [] with mode := .returning } cs) w) : Tree P x St O (G (Fr b n f ds []) cs) w := t_ctl rfl (fun _ => stepG_end) h

variable {all os : List Oper} {i : Nat} {o : Oper}
/-- An operation that the world bears: the step is what 'execOp' comes to. -/
theorem t_op (hk : b.kind ≠ .early) (hg : o.guard = none)
    (h : ∀ O1 w1, Rel x O w O1 w1 → ∃ v w' O', (execOp (ev n f) o).run P w1 = .ok (.value v) w' ∧ Moves x O1 w1 O' w' (listed P b.fn ⟨mkT n f, ds⟩ o w1) ∧
      InReg P x St O' w' b n (put f o.dst v) ds all k cs (i + 1) os) : InReg P x St O w b n f ds all k cs i (o :: os) := by
  intro e
  obtain ⟨h1, h2⟩ := drop_get e
  rw [List.length_cons, List.range'_succ]
  refine .step (Tree P x St) rfl (fun O1 w1 r => ?_) (fun _ _ _ h => h)
  obtain ⟨v, w', O', hr, hm, hT⟩ := h O1 w1 r
  rw [← eval_mkT n f ds] at hr
  have hst := stepG_value (main := x.id == 0) (b := b) (a := ⟨mkT n f, ds⟩) (k := k) (cs := cs) (rest := List.range' (i + 1) os.length) h1 (by unfold Region.wanted; rw [hg]) hk hr
  rw [put_mkT] at hst
  exact ⟨_, w', _, O', hst, hm, hT h2⟩
theorem t_opU (hk : b.kind ≠ .early) (hg : o.guard = none)
    (h : ∀ O1 w1, Rel x O w O1 w1 → ∃ w' O', (execOp (ev n f) o).run P w1 = .ok .skip w' ∧ Moves x O1 w1 O' w' (listed P b.fn ⟨mkT n f, ds⟩ o w1) ∧
      InReg P x St O' w' b n (put f o.dst undef) ds all k cs (i + 1) os) : InReg P x St O w b n f ds all k cs i (o :: os) := by
  intro e
  obtain ⟨h1, h2⟩ := drop_get e
  rw [List.length_cons, List.range'_succ]
  refine .step (Tree P x St) rfl (fun O1 w1 r => ?_) (fun _ _ _ h => h)
  obtain ⟨w', O', hr, hm, hT⟩ := h O1 w1 r
  rw [← eval_mkT n f ds] at hr
  have hst := stepG_none (main := x.id == 0) (b := b) (a := ⟨mkT n f, ds⟩) (k := k) (cs := cs) (rest := List.range' (i + 1) os.length) h1 (by unfold Region.wanted; rw [hg]) hk hr
  rw [put_mkT] at hst
  exact ⟨_, w', _, O', hst, hm, hT h2⟩

/-! ### new memory -/
/-- The world with one more block. -/
def grow (w : World) (o : Obj) : World := { w with heap := w.heap.push o }
theorem run_newObj (w : World) (o : Obj) : (newObj o).run P w = .ok w.heap.size (grow w o) := rfl
def Gh.with (O : Gh) (b : Nat) (t : Tag) : Gh := { O with tag := fun c => if c = b then t else O.tag c }
theorem Gh.with_same (O : Gh) (b : Nat) (t : Tag) : (O.with b t).tag b = t := by simp [Gh.with]
theorem Gh.with_ne (O : Gh) {b c : Nat} (t : Tag) (h : c ≠ b) : (O.with b t).tag c = O.tag c := by simp [Gh.with, h]

theorem Moves.grow {w : World} {o : Obj} {es : Array Event} (he : es = #[] ∨ es = #[⟨.mark .noRoom, false, true⟩]) : Moves x O w (O.with w.heap.size (.mine x.id)) (M.grow w o) es := by
  refine ⟨by simp [M.grow], rfl, rfl, rfl, ?_, fun b hb => Gh.with_ne O _ (by omega), fun b h1 h2 => ?_, fun b hb _ => ?_, fun b hb _ => ?_, fun e h => ?_⟩
  · rcases he with rfl | rfl <;> rfl
  · simp only [M.grow, Array.size_push] at h2
    obtain rfl : b = w.heap.size := by omega
    exact .inl (Gh.with_same O _ _)
  · simp only [M.grow]; rw [Array.getElem?_push_lt hb]; simp [hb]
  · unfold World.cell?; simp only [M.grow]; rw [Array.getElem?_push_lt hb]; simp [hb]
  · rcases he with rfl | rfl
    · simp at h
    · simp at h; subst h; exact .inr (.inr (.inr (.inr (.inr (.inl rfl)))))
theorem Rel.grow (w : World) (o : Obj) : Rel x O w (O.with w.heap.size (.mine x.id)) (M.grow w o) := by
  refine ⟨by simp [M.grow], rfl, rfl, rfl, rfl, fun b hb _ => Gh.with_ne O _ (by omega), fun b hb _ h => by rw [Gh.with_ne O _ (by omega)]; exact h, fun b hb _ => ?_, fun b hb _ _ => ?_, fun _ b hb h => ⟨by rw [Gh.with_ne O _ (by omega)]; exact h, ?_⟩, fun b hb h => by rw [Gh.with_ne O _ (by omega)]; exact h, fun b hb _ => shape_congr (by simp only [M.grow]; rw [Array.getElem?_push_lt hb]; simp [hb])⟩
  · simp only [M.grow]; rw [Array.getElem?_push_lt hb]; simp [hb]
  · unfold World.cell?; simp only [M.grow]; rw [Array.getElem?_push_lt hb]; simp [hb]
  · simp only [M.grow]; rw [Array.getElem?_push_lt hb]; simp [hb]

/-- The thread's own new block. -/
structure New (x : Th) (O : Gh) (w : World) (O1 : Gh) (w1 : World) (m : Nat) (o : Obj) : Prop where
  rel : Rel x O w O1 w1
  ge : w.heap.size ≤ m
  tag : O1.tag m = .mine x.id
  obj : w1.heap[m]? = some o

/-- An operation that makes one block and yields a value that names it. -/
theorem t_new {obj : Obj} {val : Nat → Value} (hk : b.kind ≠ .early) (hg : o.guard = none)
    (hr : ∀ w, (execOp (ev n f) o).run P w = .ok (.value (val w.heap.size)) (grow w obj)) (he : ∀ w, (execOp (ev n f) o).events P w #[] = #[])
    (h : ∀ m O1 w1, New x O w O1 w1 m obj → InReg P x St O1 w1 b n (put f o.dst (val m)) ds all k cs (i + 1) os) :
    InReg P x St O w b n f ds all k cs i (o :: os) := by
  refine t_op hk hg fun O1 w1 r => ⟨_, _, O1.with w1.heap.size (.mine x.id), hr w1, ?_, h w1.heap.size _ _ ⟨r.trans (Rel.grow w1 obj), r.size, Gh.with_same _ _ _, ?_⟩⟩
  · refine Moves.grow (.inl ?_)
    unfold listed; rw [eval_mkT, he w1]; exact seen_none P _
  · exact Array.getElem?_push_size

theorem run_newRow (P : Program) (w : World) (t : TypeId) (c : Array Value) : (newRow t c).run P w = .ok ⟨w.heap.size, 0, none⟩ (grow w (.cells c t)) := rfl
/-- A value is laid into a new variable. -/
theorem t_box {d : Nat} {t u : TypeId} {p : String} {e : Array Edge} {y : Operand} (c : Array Value) (hc : (ev n f y).cells = c) (hk : b.kind ≠ .early)
    (h : ∀ m O1 w1, New x O w O1 w1 m (.cells c u) → InReg P x St O1 w1 b n (upd f d (.pointer (some ⟨m, 0, none⟩))) ds all k cs (i + 1) os) :
    InReg P x St O w b n f ds all k cs i (⟨some d, .box u y, t, p, e, none⟩ :: os) := by
  subst hc
  exact t_new (o := ⟨some d, .box u y, t, p, e, none⟩) (val := fun m => .pointer (some ⟨m, 0, none⟩)) hk rfl (fun w => rfl) (fun w => rfl) h

/-- What stands in the thread's own block is known to it. -/
theorem New.cell {x : Th} {O O1 : Gh} {w w1 : World} {m : Nat} {c : Array Value} {t : TypeId} {fr : Nat × Nat} (h : New x O w O1 w1 m (.cells c t fr)) (o : Nat) (v : Value) (hc : c[o]? = some v) : ldOf x O1 w1 ⟨m, o, none⟩ = some v :=
  ldOf_of (.inl h.tag) (by unfold World.cell?; rw [h.obj]; simpa using hc)

/-! ### calls and returns -/
theorem mkT_enter (args : Array Value) (n : Nat) (h : args.size ≤ n) : args ++ Array.replicate (n - args.size) undef = mkT n (fun t => args.getD t undef) := by
  apply Array.ext_getElem?
  intro i
  rw [mkT_get]
  by_cases hi : i < args.size
  · rw [Array.getElem?_append_left hi, if_pos (by omega)]
    simp [hi]
  · rw [Array.getElem?_append_right (by omega)]
    by_cases hn : i < n
    · rw [if_pos hn, Array.getElem?_replicate, if_pos (by omega)]
      simp [hi]
    · rw [if_neg hn, Array.getElem?_replicate, if_neg (by omega)]

/-- The slots of a fresh activation. -/
def args1 (a : Value) : Nat → Value := upd (fun _ => undef) 0 a
def args2 (a b : Value) : Nat → Value := upd (args1 a) 1 b
def args3 (a b c : Value) : Nat → Value := upd (args2 a b) 2 c
def args4 (a b c d : Value) : Nat → Value := upd (args3 a b c) 3 d
theorem getD0 : (fun t => (#[] : Array Value).getD t undef) = fun _ => undef := by funext t; simp
theorem getD1 (a : Value) : (fun t => (#[a] : Array Value).getD t undef) = args1 a := by
  funext t; unfold args1 upd; rcases t with _ | t <;> simp
theorem getD2 (a b : Value) : (fun t => (#[a, b] : Array Value).getD t undef) = args2 a b := by
  funext t; unfold args2 args1 upd; rcases t with _ | _ | t <;> simp
theorem getD3 (a b c : Value) : (fun t => (#[a, b, c] : Array Value).getD t undef) = args3 a b c := by
  funext t; unfold args3 args2 args1 upd; rcases t with _ | _ | _ | t <;> simp
theorem getD4 (a b c d : Value) : (fun t => (#[a, b, c, d] : Array Value).getD t undef) = args4 a b c d := by
  funext t; unfold args4 args3 args2 args1 upd; rcases t with _ | _ | _ | _ | t <;> simp

theorem enter_Fr {fn : FuncId} {F : Func} {c : Code} (args : Array Value) (hf : P.funcs[fn]? = some F) (hb : F.body = some c) (hn : args.size ≤ F.ntmps) :
    Frame.enter P fn args .normal = Fr (base fn) F.ntmps (fun t => args.getD t undef) [] [.code c] := by
  rw [enter_at args hf hb, mkT_enter args _ hn]; rfl

theorem enter0 {fn n : Nat} {F : Func} {c : Code} (hf : P.funcs[fn]? = some F) (hb : F.body = some c) (hn : F.ntmps = n) :
    Frame.enter P fn #[] .normal = Fr (base fn) n (fun _ => undef) [] [.code c] := by
  subst hn; rw [enter_Fr _ hf hb (Nat.zero_le _), getD0]
theorem enter1 {fn n : Nat} {F : Func} {c : Code} (a : Value) (hf : P.funcs[fn]? = some F) (hb : F.body = some c) (hn : F.ntmps = n) (h : 1 ≤ n) :
    Frame.enter P fn #[a] .normal = Fr (base fn) n (args1 a) [] [.code c] := by
  subst hn; rw [enter_Fr #[a] hf hb h, getD1]
theorem enter2 {fn n : Nat} {F : Func} {c : Code} (a d : Value) (hf : P.funcs[fn]? = some F) (hb : F.body = some c) (hn : F.ntmps = n) (h : 2 ≤ n) :
    Frame.enter P fn #[a, d] .normal = Fr (base fn) n (args2 a d) [] [.code c] := by
  subst hn; rw [enter_Fr #[a, d] hf hb h, getD2]
theorem enter3 {fn n : Nat} {F : Func} {c : Code} (a d e : Value) (hf : P.funcs[fn]? = some F) (hb : F.body = some c) (hn : F.ntmps = n) (h : 3 ≤ n) :
    Frame.enter P fn #[a, d, e] .normal = Fr (base fn) n (args3 a d e) [] [.code c] := by
  subst hn; rw [enter_Fr #[a, d, e] hf hb h, getD3]
theorem enter4 {fn n : Nat} {F : Func} {c : Code} (a d e g : Value) (hf : P.funcs[fn]? = some F) (hb : F.body = some c) (hn : F.ntmps = n) (h : 4 ≤ n) :
    Frame.enter P fn #[a, d, e, g] .normal = Fr (base fn) n (args4 a d e g) [] [.code c] := by
  subst hn; rw [enter_Fr #[a, d, e, g] hf hb h, getD4]

/-- A call of a function that has a body: it is entered. -/
theorem t_call {d : Nat} {t : TypeId} {p : String} {ed : Array Edge} {fn : FuncId} {F : Func} {args : Array Operand} {ats : Array TypeId} (hk : b.kind ≠ .early)
    (hf : P.funcs[fn]? = some F) (hname : (F.name == "runtime.NumGoroutine") = false) (hb : F.body.isNone = false)
    (h : ∀ c, (∀ v O' w', InReg P x St O' w' b n (upd f d v) ds all k cs (i + 1) os → Tree P x St O' (G (c.finish v) cs) w') → Tree P x St O (G (Frame.enter P fn (args.map (ev n f)) .normal) (c :: cs)) w) :
    InReg P x St O w b n f ds all k cs i (⟨some d, .call { callee := .value (.func fn), args, argTypes := ats }, t, p, ed, none⟩ :: os) := by
  intro e
  obtain ⟨h1, h2⟩ := drop_get e
  rw [List.length_cons, List.range'_succ]
  refine t_ctl rfl (fun w => ?_) (h (Fr b n f ds (.inRegion all.toArray (i :: List.range' (i + 1) os.length) :: k)) fun v O' w' hv => ?_)
  · have := stepG_enter (P := P) (main := x.id == 0) (b := b) (a := ⟨mkT n f, ds⟩) (k := k) (cs := cs) (w := w) (rest := List.range' (i + 1) os.length) h1 rfl hk (run_call_body rfl hf hname hb)
    have hl : listed P b.fn ⟨mkT n f, ds⟩ ⟨some d, .call { callee := .value (.func fn), args, argTypes := ats }, t, p, ed, none⟩ w = #[] := by unfold listed; rw [events_call_body rfl hf hname hb]; exact seen_none P _
    rw [hl, eval_mkT] at this
    exact this
  · unfold Fr
    rw [Frame.finish_at, put_mkT, h1]
    exact hv h2

theorem Fr_finish {i : Nat} {rest : List Nat} (v : Value) : (Fr b n f ds (.inRegion ops (i :: rest) :: k)).finish v = Fr b n (put f ((ops[i]?).bind (·.dst)) v) ds (.inRegion ops rest :: k) := by
  unfold Fr; rw [Frame.finish_at, put_mkT]

/-- The return: the frame is on its way out, its results lie in temporaries. -/
theorem t_leave {F : Func} {todo : List Item} {c : Frame} {v : Value} (hn : b.kind = .normal) (hf : P.funcs[b.fn]? = some F)
    (hr : ∀ w, (results F (mkT n f)).run P w = .ok v w) (he : ∀ w, (results F (mkT n f)).events P w #[] = #[])
    (h : Tree P x St O (G (c.finish v) cs) w) : Tree P x St O (G { Fr b n f [] todo with mode := .returning } (c :: cs)) w :=
  t_ctl rfl (fun w => stepG_leave (a := ⟨mkT n f, []⟩) hn rfl hf (hr w) (he w)) h
theorem t_leave1 {F : Func} {todo : List Item} {c : Frame} {t : Tmp} (hn : b.kind = .normal) (hf : P.funcs[b.fn]? = some F) (hr : F.results = #[.tmp t])
    (h : Tree P x St O (G (c.finish (ev n f (.tmp t))) cs) w) : Tree P x St O (G { Fr b n f [] todo with mode := .returning } (c :: cs)) w := by
  refine t_leave hn hf (fun w => ?_) (fun _ => events_results_tmp hr _ _) h
  rw [results_tmp hr _ P w, mkT_getD]; rfl
theorem t_leave0 {F : Func} {todo : List Item} {c : Frame} (hn : b.kind = .normal) (hf : P.funcs[b.fn]? = some F) (hr : F.results = #[])
    (h : Tree P x St O (G (c.finish (.tuple #[])) cs) w) : Tree P x St O (G { Fr b n f [] todo with mode := .returning } (c :: cs)) w :=
  t_leave hn hf (fun w => results_none hr _ P w) (fun _ => events_results_none hr _ _) h
theorem t_leave2 {F : Func} {todo : List Item} {c : Frame} {t u : Tmp} (hn : b.kind = .normal) (hf : P.funcs[b.fn]? = some F) (hr : F.results = #[.tmp t, .tmp u])
    (h : Tree P x St O (G (c.finish (.tuple #[ev n f (.tmp t), ev n f (.tmp u)])) cs) w) : Tree P x St O (G { Fr b n f [] todo with mode := .returning } (c :: cs)) w := by
  refine t_leave hn hf (fun w => ?_) (fun _ => events_results_tmp2 hr _ _) h
  rw [results_tmp2 hr _ P w, mkT_getD, mkT_getD]; rfl
end
end Go.Proofs.Ytdajdembeacefaa.M

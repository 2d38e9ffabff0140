/-
  THE CALCULUS, ITS BASE. A thread's walk ('Tree') through its own steps up to a stop, in whatever company: every block of memory bears a ghost tag (whose it is);
  ahead of each step the others may have turned what is not seen by this thread ('Rel'); each own step touches what is the thread's own ('Moves').
  'runL': what an operation that only reads yields, off an oracle of known cells. No condition.
-/
import Derived.Conc.Beside
import Derived.Conc.Own5
import Derived.Conc.Own2
set_option linter.unusedSimpArgs false
set_option linter.unusedVariables false
namespace Go.Proofs.Ytdajdembeacefaa.M
open Go.Conc

/-! ### ghost tags, rely, guarantee -/
inductive Tag where
  | mine (i : Nat)
  | const
  | front
  | sync
  | fresh

/-- A thread: its goroutine's number; the size of the heap when it was started. -/
structure Th where
  id : Nat
  S : Nat

structure Gh where
  tag : Nat → Tag
  deaf : Nat

def Sees (x : Th) (O : Gh) (b : Nat) : Prop :=
  O.tag b = .mine x.id ∨ (O.tag b = .const ∧ (x.id = 0 ∨ b < x.S)) ∨ (O.tag b = .front ∧ x.id = 0)
def Writes (x : Th) (O : Gh) (b : Nat) : Prop := O.tag b = .mine x.id ∨ (O.tag b = .front ∧ x.id = 0)

theorem Writes.sees {x : Th} {O : Gh} {b : Nat} (h : Writes x O b) : Sees x O b := h.elim .inl (fun h => .inr (.inr h))

/-- What thread x suffers between two of its steps. -/
structure Rel (x : Th) (O : Gh) (w : World) (O1 : Gh) (w1 : World) : Prop where
  size : w.heap.size ≤ w1.heap.size
  tape : w1.tape = w.tape
  os : w1.os = w.os
  output : w1.output = w.output
  deaf : O1.deaf = O.deaf
  tags : ∀ b, b < w.heap.size → Sees x O b → O1.tag b = O.tag b
  fr : ∀ b, b < w.heap.size → b < x.S → O.tag b = .front → O1.tag b = .front
  block : ∀ b, b < w.heap.size → Sees x O b → w1.heap[b]? = w.heap[b]?
  cell0 : ∀ b, b < w.heap.size → b < x.S → O.tag b = .front → w1.cell? ⟨b, 0, none⟩ = w.cell? ⟨b, 0, none⟩
  fresh : x.id = 0 → ∀ b, b < w.heap.size → O.tag b = .fresh → O1.tag b = .fresh ∧ w1.heap[b]? = w.heap[b]?
  sy : ∀ b, b < w.heap.size → O.tag b = .sync → O1.tag b = .sync
  shp : ∀ b, b < w.heap.size → O.tag b = .sync → w1.shape? b = w.shape? b

theorem Rel.refl (x : Th) (O : Gh) (w : World) : Rel x O w O w :=
  ⟨Nat.le_refl _, rfl, rfl, rfl, rfl, fun _ _ _ => rfl, fun _ _ _ h => h, fun _ _ _ => rfl, fun _ _ _ _ => rfl, fun _ _ _ h => ⟨h, rfl⟩, fun _ _ h => h, fun _ _ _ => rfl⟩

theorem Sees.of_tag {x : Th} {O O1 : Gh} {b : Nat} (h : Sees x O b) (e : O1.tag b = O.tag b) : Sees x O1 b := by
  unfold Sees at *; rw [e]; exact h
theorem Writes.of_tag {x : Th} {O O1 : Gh} {b : Nat} (h : Writes x O b) (e : O1.tag b = O.tag b) : Writes x O1 b := by
  unfold Writes at *; rw [e]; exact h

theorem Rel.sees {x : Th} {O O1 : Gh} {w w1 : World} (r : Rel x O w O1 w1) {b : Nat} (hb : b < w.heap.size) (h : Sees x O b) : Sees x O1 b :=
  h.of_tag (r.tags b hb h)

theorem Rel.trans {x : Th} {O O1 O2 : Gh} {w w1 w2 : World} (r : Rel x O w O1 w1) (s : Rel x O1 w1 O2 w2) : Rel x O w O2 w2 where
  size := Nat.le_trans r.size s.size
  tape := s.tape.trans r.tape
  os := s.os.trans r.os
  output := s.output.trans r.output
  deaf := s.deaf.trans r.deaf
  tags b hb h := (s.tags b (Nat.lt_of_lt_of_le hb r.size) (r.sees hb h)).trans (r.tags b hb h)
  fr b hb hS h := s.fr b (Nat.lt_of_lt_of_le hb r.size) hS (r.fr b hb hS h)
  block b hb h := (s.block b (Nat.lt_of_lt_of_le hb r.size) (r.sees hb h)).trans (r.block b hb h)
  cell0 b hb hS h := (s.cell0 b (Nat.lt_of_lt_of_le hb r.size) hS (r.fr b hb hS h)).trans (r.cell0 b hb hS h)
  fresh h0 b hb h := by
    obtain ⟨h1, h2⟩ := r.fresh h0 b hb h
    obtain ⟨h3, h4⟩ := s.fresh h0 b (Nat.lt_of_lt_of_le hb r.size) h1
    exact ⟨h3, h4.trans h2⟩
  sy b hb h := s.sy b (Nat.lt_of_lt_of_le hb r.size) (r.sy b hb h)
  shp b hb h := (s.shp b (Nat.lt_of_lt_of_le hb r.size) (r.sy b hb h)).trans (r.shp b hb h)
theorem shape_congr {w w1 : World} {b : Nat} (h : w1.heap[b]? = w.heap[b]?) : w1.shape? b = w.shape? b := by unfold World.shape?; rw [h]

/-- What thread x may list. -/
def Ev (x : Th) (O : Gh) (n : Nat) (e : Event) : Prop :=
  (∃ a, e = ⟨.cell a, true, false⟩ ∧ a.block < n ∧ (O.tag a.block = .mine x.id ∨ (O.tag a.block = .front ∧ x.id = 0 ∧ a.off ≠ 0))) ∨
  (∃ a, e = ⟨.cell a, false, false⟩ ∧ a.block < n ∧ (Sees x O a.block ∨ (O.tag a.block = .front ∧ a.block < x.S ∧ a.off = 0))) ∨
  (∃ r, (e = ⟨.obj r, true, false⟩ ∨ e = ⟨.obj r, false, false⟩) ∧ r < n ∧ O.tag r = .mine x.id) ∨
  e = ⟨.mark .disable, false, true⟩ ∨ e = ⟨.mark .enable, false, true⟩ ∨ e = ⟨.mark .noRoom, false, true⟩ ∨
  (∃ a, (e = ⟨.mark (.read a), false, true⟩ ∨ e = ⟨.mark (.write a), false, true⟩) ∧ x.id = 0 ∧ O.tag a.block = .sync ∧ a.block < n)

/-- What an own step of thread x does. -/
structure Moves (x : Th) (O : Gh) (w : World) (O' : Gh) (w' : World) (es : Array Event) : Prop where
  size : w.heap.size ≤ w'.heap.size
  tape : w'.tape = w.tape
  os : w'.os = w.os
  output : w'.output = w.output
  deaf : O'.deaf = deafBehind O.deaf es
  tags : ∀ b, b < w.heap.size → O'.tag b = O.tag b
  new : ∀ b, w.heap.size ≤ b → b < w'.heap.size → O'.tag b = .mine x.id ∨ (x.id = 0 ∧ O'.tag b = .fresh)
  block : ∀ b, b < w.heap.size → ¬ Writes x O b → w'.heap[b]? = w.heap[b]?
  cell0 : ∀ b, b < w.heap.size → O.tag b = .front → w'.cell? ⟨b, 0, none⟩ = w.cell? ⟨b, 0, none⟩
  evs : ∀ e ∈ es, Ev x O' w'.heap.size e

/-- Thread x, at (O, g, w), walks by its own steps to a stop. -/
inductive Tree (P : Program) (x : Th) (St : Gh → Goroutine → World → Prop) : Gh → Goroutine → World → Prop
  | stop {O : Gh} {g : Goroutine} {w : World} (h : ∀ O1 w1, Rel x O w O1 w1 → St O1 g w1) : Tree P x St O g w
  | step {O : Gh} {g : Goroutine} {w : World} (K : Gh → Goroutine → World → Prop) (hs : g.status = .running)
      (h : ∀ O1 w1, Rel x O w O1 w1 → ∃ g' w' es O', stepG P (x.id == 0) g w1 = .go g' w' es ∧ Moves x O1 w1 O' w' es ∧ K O' g' w')
      (hK : ∀ O' g' w', K O' g' w' → Tree P x St O' g' w') : Tree P x St O g w

section
variable {P : Program} {x : Th} {St : Gh → Goroutine → World → Prop} {O O1 O' : Gh} {g g' : Goroutine} {w w1 w' : World}

theorem Tree.rely (h : Tree P x St O g w) (r : Rel x O w O1 w1) : Tree P x St O1 g w1 := by
  cases h with
  | stop h => exact .stop fun O2 w2 s => h O2 w2 (r.trans s)
  | step K hs h hK => exact .step K hs (fun O2 w2 s => h O2 w2 (r.trans s)) hK

theorem Tree.mono {St' : Gh → Goroutine → World → Prop} (hst : ∀ O g w, St O g w → St' O g w) (h : Tree P x St O g w) : Tree P x St' O g w := by
  induction h with
  | stop h => exact .stop fun O2 w2 s => hst _ _ _ (h O2 w2 s)
  | step K hs h _ ih => exact .step K hs h ih

theorem Moves.idle (w : World) : Moves x O w O w #[] :=
  ⟨Nat.le_refl _, rfl, rfl, rfl, rfl, fun _ _ => rfl, fun b h1 h2 => absurd h2 (Nat.not_lt.2 h1), fun _ _ _ => rfl, fun _ _ _ => rfl, by simp⟩

/-- A step that is the same in every world and touches nothing. -/
theorem t_ctl (hs : g.status = .running) (h : ∀ w, stepG P (x.id == 0) g w = .go g' w #[]) (hT : Tree P x St O g' w) : Tree P x St O g w :=
  .step (fun O' g'' w' => g'' = g' ∧ Rel x O w O' w') hs (fun O1 w1 r => ⟨g', w1, #[], O1, h w1, Moves.idle w1, rfl, r⟩)
    (fun _ _ _ ⟨e, r⟩ => e ▸ hT.rely r)
end

/-! ### frames: slots as a function -/
def mkT (n : Nat) (f : Nat → Value) : Array Value := Array.ofFn fun i : Fin n => f i
def upd (f : Nat → Value) (d : Nat) (v : Value) (t : Nat) : Value := if t = d then v else f t
def put (f : Nat → Value) (d : Option Nat) (v : Value) : Nat → Value := match d with
  | some d => upd f d v
  | none => f
theorem XJ (f : Nat → Value) (d : Nat) (v : Value) : put f (some d) v = upd f d v := rfl
theorem put_none (f : Nat → Value) (v : Value) : put f none v = f := rfl
def ev (n : Nat) (f : Nat → Value) : Operand → Value
  | .tmp t => if t < n then f t else undef
  | .const v => v
  | .global g => .pointer (some ⟨g, 0, none⟩)
  | .func f => .func (.func f) #[] #[]

theorem mkT_get (n : Nat) (f : Nat → Value) (t : Nat) : (mkT n f)[t]? = if t < n then some (f t) else none := by
  unfold mkT; simp [Array.getElem?_ofFn]
theorem mkT_getD (n : Nat) (f : Nat → Value) (t : Nat) : (mkT n f).getD t undef = if t < n then f t else undef := by
  rw [Array.getD_eq_getD_getElem?, mkT_get]; split <;> rfl
theorem mkT_set (n : Nat) (f : Nat → Value) (d : Nat) (v : Value) : (mkT n f).setIfInBounds d v = mkT n (upd f d v) := by
  apply Array.ext_getElem?
  intro i
  rw [Array.getElem?_setIfInBounds, mkT_get, mkT_get]
  simp only [mkT, Array.size_ofFn, upd]
  by_cases h : i = d
  · subst h; simp
  · simp [h, Ne.symm h]
theorem eval_mkT (n : Nat) (f : Nat → Value) (ds : List Deferred) : (Act.mk (mkT n f) ds).eval = ev n f := by
  funext o; cases o with
  | tmp t => exact mkT_getD n f t
  | _ => rfl
theorem put_mkT (n : Nat) (f : Nat → Value) (ds : List Deferred) (d : Option Nat) (v : Value) : (Act.mk (mkT n f) ds).put d v = ⟨mkT n (put f d v), ds⟩ := by
  cases d <;> simp [Act.put, put, mkT_set]
theorem yielded_mkT (ops : Array Oper) (n : Nat) (f : Nat → Value) (j : Nat) : yielded ops (mkT n f) j =
    match (ops[j]?).bind (·.dst) with
    | some d => if d < n then (match f d with | .bool b => some b | _ => none) else none
    | none => none := by
  unfold yielded
  cases (ops[j]?).bind (·.dst) with
  | none => rfl
  | some d =>
    simp only [Option.bind_some, mkT_get]
    by_cases h : d < n
    · simp only [h, if_true]; cases f d <;> rfl
    · simp only [h, if_false]

/-- A frame in the calculus's own form. -/
def Fr (b : Frame) (n : Nat) (f : Nat → Value) (ds : List Deferred) (todo : List Item) : Frame := b.at ⟨mkT n f, ds⟩ todo


/-! ### operations that only read -/
/-- What a piece of the model's own text comes to, off an oracle of known cells: reads alone. -/
def runL {α : Type} (P : Program) (L : Addr → Option Value) : Sem α → Option α
  | .pure a => some a
  | .load .plain a k => match L a with
    | some v => runL P L (k v)
    | none => none
  | .program k => runL P L (k P)
  | _ => none

def EvR (L : Addr → Option Value) (e : Event) : Prop := ∃ a v, e = ⟨.cell a, false, false⟩ ∧ L a = some v

theorem runL_sound {α : Type} {P : Program} {L : Addr → Option Value} {w : World} (hL : ∀ a v, L a = some v → w.cell? a = some v) :
    ∀ (s : Sem α) (a : α), runL P L s = some a → s.run P w = .ok a w ∧ ∀ es, ∀ e ∈ s.events P w es, e ∈ es ∨ EvR L e := by
  intro s
  induction s with
  | pure a => intro b h; simp only [runL, Option.some.injEq] at h; subst h; exact ⟨rfl, fun es e he => .inl he⟩
  | load m a k ih =>
    intro b h
    cases m with
    | atomic => simp [runL] at h
    | plain =>
      simp only [runL] at h
      cases hv : L a with
      | none => rw [hv] at h; cases h
      | some v =>
        rw [hv] at h
        have hc := hL a v hv
        obtain ⟨h1, h2⟩ := ih v b h
        refine ⟨by simp only [Sem.run, hc]; exact h1, fun es e he => ?_⟩
        have he' : e ∈ (k v).events P w (es.push ⟨.cell a, false, false⟩) := by
          simpa only [Sem.events, Sem.runT, hc, show (Mode.plain == Mode.atomic) = false from rfl] using he
        rcases h2 _ e he' with h3 | h3
        · rcases Array.mem_push.1 h3 with h4 | h4
          · exact .inl h4
          · exact .inr ⟨a, v, h4, hv⟩
        · exact .inr h3
  | program k ih =>
    intro b h
    obtain ⟨h1, h2⟩ := ih P b h
    exact ⟨h1, fun es e he => h2 es e (by simpa only [Sem.events, Sem.runT] using he)⟩
  | _ => intro b h; simp [runL] at h

theorem runL_bind {α β : Type} (P : Program) (L : Addr → Option Value) (s : Sem α) (f : α → Sem β) :
    runL P L (s >>= f) = (runL P L s).bind fun a => runL P L (f a) := by
  show runL P L (s.bind f) = _
  induction s with
  | pure a => rfl
  | load m a k ih =>
    cases m with
    | atomic => rfl
    | plain => simp only [Sem.bind, runL]; cases L a <;> simp [ih]
  | program k ih => simp only [Sem.bind, runL, ih]
  | _ => rfl
theorem runL_pure {α : Type} (P : Program) (L : Addr → Option Value) (a : α) : runL P L (Pure.pure a : Sem α) = some a := rfl
theorem runL_pure' {α : Type} (P : Program) (L : Addr → Option Value) (a : α) : runL P L (Sem.pure a) = some a := rfl

theorem runL_mono {α : Type} {P : Program} {L L' : Addr → Option Value} (hL : ∀ a v, L a = some v → L' a = some v) :
    ∀ (s : Sem α) (a : α), runL P L s = some a → runL P L' s = some a := by
  intro s
  induction s with
  | pure a => exact fun _ h => h
  | load m a k ih =>
    intro b h
    cases m with
    | atomic => simp [runL] at h
    | plain =>
      simp only [runL] at h ⊢
      cases hv : L a with
      | none => rw [hv] at h; cases h
      | some v => rw [hv] at h; rw [hL a v hv]; exact ih v b h
  | program k ih => exact fun b h => ih P b h
  | _ => intro b h; simp [runL] at h

/-- The cells that thread x knows. -/
noncomputable def ldOf (x : Th) (O : Gh) (w : World) (a : Addr) : Option Value :=
  open Classical in if a.block < w.heap.size ∧ (Sees x O a.block ∨ (a = ⟨a.block, 0, none⟩ ∧ O.tag a.block = .front ∧ a.block < x.S)) then w.cell? a else none

theorem ldOf_cell {x : Th} {O : Gh} {w : World} {a : Addr} {v : Value} (h : ldOf x O w a = some v) : w.cell? a = some v := by
  unfold ldOf at h; split at h
  · exact h
  · cases h
theorem cell?_lt {w : World} {a : Addr} {v : Value} (h : w.cell? a = some v) : a.block < w.heap.size := by
  unfold World.cell? at h
  rcases Nat.lt_or_ge a.block w.heap.size with h' | h'
  · exact h'
  · rw [Array.getElem?_eq_none h'] at h; cases h
theorem ldOf_of {x : Th} {O : Gh} {w : World} {a : Addr} {v : Value} (hs : Sees x O a.block) (h : w.cell? a = some v) : ldOf x O w a = some v := by
  unfold ldOf; rw [if_pos ⟨cell?_lt h, .inl hs⟩]; exact h
theorem cell?_congr {w w1 : World} {b : Nat} (h : w1.heap[b]? = w.heap[b]?) (o : Nat) (s : Option Nat) : w1.cell? ⟨b, o, s⟩ = w.cell? ⟨b, o, s⟩ := by
  unfold World.cell?; simp only [h]
theorem ldOf_rely {x : Th} {O O1 : Gh} {w w1 : World} (r : Rel x O w O1 w1) {a : Addr} {v : Value} (h : ldOf x O w a = some v) : ldOf x O1 w1 a = some v := by
  have hc := ldOf_cell h
  unfold ldOf at h; split at h
  · rename_i hh
    obtain ⟨hb, hh⟩ := hh
    have hb1 := Nat.lt_of_lt_of_le hb r.size
    unfold ldOf
    rcases hh with hs | ⟨h0, hf, hS⟩
    · rw [if_pos ⟨hb1, .inl (r.sees hb hs)⟩]
      obtain ⟨b, o, s⟩ := a
      rw [cell?_congr (r.block b hb hs)]; exact hc
    · rw [if_pos ⟨hb1, .inr ⟨h0, r.fr _ hb hS hf, hS⟩⟩]
      have := r.cell0 a.block hb hS hf
      rw [← h0] at this
      rw [this]; exact hc
  · cases h

theorem evR_ev {x : Th} {O : Gh} {w : World} {e : Event} (h : EvR (ldOf x O w) e) : Ev x O w.heap.size e := by
  obtain ⟨a, v, rfl, h⟩ := h
  refine .inr (.inl ⟨a, rfl, cell?_lt (ldOf_cell h), ?_⟩)
  unfold ldOf at h; split at h
  · rename_i hh
    rcases hh.2 with hs | ⟨h0, hf, hS⟩
    · exact .inl hs
    · exact .inr ⟨hf, hS, by rw [h0]⟩
  · cases h

/-- An event that is a plain access leaves the deafness. -/
theorem deaf_keep {d : Nat} {es : Array Event} (h : ∀ e ∈ es, e.loc ≠ .mark .disable ∧ e.loc ≠ .mark .enable) : deafBehind d es = d := by
  unfold deafBehind
  rw [← Array.foldl_toList]
  have h' : ∀ e ∈ es.toList, e.loc ≠ .mark .disable ∧ e.loc ≠ .mark .enable := fun e he => h e (Array.mem_toList_iff.1 he)
  generalize es.toList = l at h'
  induction l with
  | nil => rfl
  | cons e l ih =>
    obtain ⟨h1, h2⟩ := h' e (List.mem_cons_self ..)
    rw [List.foldl_cons]
    split
    · rename_i he; exact absurd he h1
    · rename_i he; exact absurd he h2
    · exact ih fun e he => h' e (List.mem_cons_of_mem _ he)

theorem Moves.still {x : Th} {O : Gh} {w : World} {es : Array Event} (h : ∀ e ∈ es, Ev x O w.heap.size e) (hd : ∀ e ∈ es, e.loc ≠ .mark .disable ∧ e.loc ≠ .mark .enable) : Moves x O w O w es :=
  ⟨Nat.le_refl _, rfl, rfl, rfl, (deaf_keep hd).symm, fun _ _ => rfl, fun b h1 h2 => absurd h2 (Nat.not_lt.2 h1), fun _ _ _ => rfl, fun _ _ _ => rfl, h⟩

section
variable {P : Program} {x : Th} {St : Gh → Goroutine → World → Prop} {O : Gh} {w : World} {b : Frame} {n : Nat} {f f' : Nat → Value} {ds : List Deferred} {ops : Array Oper} {k : List Item} {cs : List Frame}

/-- The values that a row of operations of a region gives, in this order; each only reads. -/
def evalOps (P : Program) (L : Addr → Option Value) (n : Nat) (ops : Array Oper) : List Nat → (Nat → Value) → Option (Nat → Value)
  | [], f => some f
  | i :: l, f => match ops[i]? with
    | none => evalOps P L n ops l f
    | some o => if Region.wanted o (yielded ops (mkT n f)) then
        match runL P L (execOp (ev n f) o) with
        | some (.value v) => evalOps P L n ops l (put f o.dst v)
        | _ => none
      else evalOps P L n ops l (put f o.dst undef)

theorem t_readsE (hk : b.kind ≠ .early) : ∀ (is rest : List Nat) (f : Nat → Value), evalOps P (ldOf x O w) n ops is f = some f' →
    Tree P x St O (G (Fr b n f' ds (.inRegion ops rest :: k)) cs) w → Tree P x St O (G (Fr b n f ds (.inRegion ops (is ++ rest) :: k)) cs) w := by
  intro is
  induction is with
  | nil => intro rest f h hT; simp only [evalOps, Option.some.injEq] at h; subst h; exact hT
  | cons i l ih =>
    intro rest f h hT
    simp only [evalOps] at h
    rw [List.cons_append]
    cases ho : ops[i]? with
    | none =>
      rw [ho] at h
      refine t_ctl rfl (fun w => ?_) (ih rest f h hT)
      simp [G, stepG, stepG.exec, Fr, Frame.at, ho, Frame.finish]
    | some o =>
      rw [ho] at h
      simp only at h
      by_cases hw : Region.wanted o (yielded ops (mkT n f)) = true
      · rw [if_pos hw] at h
        cases hr : runL P (ldOf x O w) (execOp (ev n f) o) with
        | none => rw [hr] at h; cases h
        | some z =>
          rw [hr] at h
          cases z with
          | value v =>
            have hT' := ih rest _ h hT
            refine .step (fun O' g' w' => g' = G (Fr b n (put f o.dst v) ds (.inRegion ops (l ++ rest) :: k)) cs ∧ Rel x O w O' w') rfl (fun O1 w1 r => ?_) (fun _ _ _ ⟨e, r⟩ => e ▸ hT'.rely r)
            have hr1 := runL_mono (fun _ _ h => ldOf_rely r h) _ _ hr
            obtain ⟨h1, h2⟩ := runL_sound (fun _ _ h => ldOf_cell h) _ _ hr1
            rw [← eval_mkT n f ds] at h1 h2
            have hst := stepG_value (main := x.id == 0) (b := b) (a := ⟨mkT n f, ds⟩) (k := k) (cs := cs) (rest := l ++ rest) ho hw hk h1
            rw [put_mkT] at hst
            refine ⟨_, w1, _, O1, hst, Moves.still (fun e he => ?_) (fun e he => ?_), rfl, r⟩
            · rcases h2 #[] e (mem_listed he) with h3 | h3
              · simp at h3
              · exact evR_ev h3
            · rcases h2 #[] e (mem_listed he) with h3 | h3
              · simp at h3
              · obtain ⟨a, v, rfl, _⟩ := h3; simp
          | _ => cases h
      · rw [if_neg hw] at h
        have hT' := ih rest _ h hT
        refine t_ctl rfl (fun w => ?_) hT'
        have := stepG_unwanted (P := P) (main := x.id == 0) (b := b) (a := ⟨mkT n f, ds⟩) (k := k) (cs := cs) (w := w) (rest := l ++ rest) ho (by simpa using hw)
        rw [put_mkT] at this
        exact this

def opThen (r : Option Next) (K : Value → Prop) : Prop := match r with
  | some (.value v) => K v
  | _ => False
theorem X4 (v : Value) (K : Value → Prop) : opThen (some (.value v)) K = K v := rfl

/-- An operation that only reads; what it yields is reckoned behind a variable. -/
theorem t_rd0 {i : Nat} {rest : List Nat} {o : Oper} (hk : b.kind ≠ .early) (ho : ops[i]? = some o) (hw : Region.wanted o (yielded ops (mkT n f)) = true)
    (h : ∀ K : Value → Prop, (∀ v, Tree P x St O (G (Fr b n (put f o.dst v) ds (.inRegion ops rest :: k)) cs) w → K v) → opThen (runL P (ldOf x O w) (execOp (ev n f) o)) K) :
    Tree P x St O (G (Fr b n f ds (.inRegion ops (i :: rest) :: k)) cs) w := by
  have := h _ (fun _ h => h)
  cases hr : runL P (ldOf x O w) (execOp (ev n f) o) with
  | none => rw [hr] at this; exact this.elim
  | some z =>
    rw [hr] at this
    cases z with
    | value v =>
      refine t_readsE hk [i] rest f (f' := put f o.dst v) ?_ this
      simp only [evalOps, ho, hw, if_true, hr]
    | _ => exact this.elim
theorem wanted_of {o : Oper} {j d : Nat} {t : Bool} (hg : o.guard = some (j, t)) (hj : (ops[j]?).bind (·.dst) = some d) (hd : d < n) {z : Bool} (hv : f d = .bool z) : Region.wanted o (yielded ops (mkT n f)) = (z == t) := by
  unfold Region.wanted; rw [hg]; simp only [yielded_mkT, hj, hd, if_true, hv]
  cases z <;> cases t <;> rfl

/-- In a region whose order is the text's: 'os' are the operations that are left, from number i on. -/
def InReg (P : Program) (x : Th) (St : Gh → Goroutine → World → Prop) (O : Gh) (w : World) (b : Frame) (n : Nat) (f : Nat → Value) (ds : List Deferred) (all : List Oper) (k : List Item) (cs : List Frame) (i : Nat) (os : List Oper) : Prop :=
  all.drop i = os → Tree P x St O (G (Fr b n f ds (.inRegion all.toArray (List.range' i os.length) :: k)) cs) w
variable {all os : List Oper} {i : Nat} {o : Oper}
theorem drop_get {i : Nat} {o : Oper} (e : all.drop i = o :: os) : all.toArray[i]? = some o ∧ all.drop (i + 1) = os := by
  constructor
  · have := congrArg (·[0]?) e
    simpa [List.getElem?_drop] using this
  · rw [← List.drop_drop, e]; rfl
theorem t_region {id : Nat} (h : InReg P x St O w b n f ds all k cs 0 all) : Tree P x St O (G (Fr b n f ds (.code (.region id all.toArray false) :: k)) cs) w := by
  refine t_ctl rfl (fun _ => stepG_region) ?_
  rw [List.size_toArray, List.range_eq_range']
  exact h rfl
theorem t_done (h : Tree P x St O (G (Fr b n f ds k) cs) w) : InReg P x St O w b n f ds all k cs i [] := fun _ => t_ctl rfl (fun _ => stepG_region_end) h
variable {d : Nat} {op : Op} {t : TypeId} {p : String} {e : Array Edge}
theorem t_rd (hk : b.kind ≠ .early)
    (h : ∀ K : Value → Prop, (∀ v, InReg P x St O w b n (upd f d v) ds all k cs (i + 1) os → K v) → opThen (runL P (ldOf x O w) (execOp (ev n f) ⟨some d, op, t, p, e, none⟩)) K) :
    InReg P x St O w b n f ds all k cs i (⟨some d, op, t, p, e, none⟩ :: os) := by
  intro e
  obtain ⟨h1, h2⟩ := drop_get e
  rw [List.length_cons, List.range'_succ]
  exact t_rd0 hk h1 rfl fun K hK => h K fun v hv => hK v (hv h2)
theorem t_rdG {j d' : Nat} {z : Bool} (hk : b.kind ≠ .early) (hj : (all.toArray[j]?).bind (·.dst) = some d') (hd : d' < n) (hv : f d' = .bool z)
    (h : ∀ K : Value → Prop, (∀ v, InReg P x St O w b n (upd f d v) ds all k cs (i + 1) os → K v) → opThen (runL P (ldOf x O w) (execOp (ev n f) ⟨some d, op, t, p, e, some (j, z)⟩)) K) :
    InReg P x St O w b n f ds all k cs i (⟨some d, op, t, p, e, some (j, z)⟩ :: os) := by
  intro e
  obtain ⟨h1, h2⟩ := drop_get e
  rw [List.length_cons, List.range'_succ]
  exact t_rd0 hk h1 (by rw [wanted_of rfl hj hd hv]; cases z <;> rfl) fun K hK => h K fun v hv => hK v (hv h2)
theorem t_skG {j d' : Nat} {z : Bool} (hj : (all.toArray[j]?).bind (·.dst) = some d') (hd : d' < n) (hv : f d' = .bool (!z))
    (h : InReg P x St O w b n (upd f d undef) ds all k cs (i + 1) os) : InReg P x St O w b n f ds all k cs i (⟨some d, op, t, p, e, some (j, z)⟩ :: os) := by
  intro e
  obtain ⟨h1, h2⟩ := drop_get e
  rw [List.length_cons, List.range'_succ]
  refine t_ctl rfl (fun w => ?_) (h h2)
  have := stepG_unwanted (P := P) (main := x.id == 0) (b := b) (a := ⟨mkT n f, ds⟩) (k := k) (cs := cs) (w := w) (rest := List.range' (i + 1) os.length) h1 (by rw [wanted_of rfl hj hd hv]; cases z <;> rfl)
  rw [put_mkT] at this
  exact this
theorem t_skU {j d' : Nat} {z : Bool} (hj : (all.toArray[j]?).bind (·.dst) = some d') (hd : d' < n) (hv : f d' = undef)
    (h : InReg P x St O w b n (upd f d undef) ds all k cs (i + 1) os) : InReg P x St O w b n f ds all k cs i (⟨some d, op, t, p, e, some (j, z)⟩ :: os) := by
  intro e
  obtain ⟨h1, h2⟩ := drop_get e
  rw [List.length_cons, List.range'_succ]
  refine t_ctl rfl (fun w => ?_) (h h2)
  have := stepG_unwanted (P := P) (main := x.id == 0) (b := b) (a := ⟨mkT n f, ds⟩) (k := k) (cs := cs) (w := w) (rest := List.range' (i + 1) os.length) h1 (by unfold Region.wanted; simp only [yielded_mkT, hj, hd, if_true, hv, undef]; cases z <;> rfl)
  rw [put_mkT] at this
  exact this
end
end Go.Proofs.Ytdajdembeacefaa.M

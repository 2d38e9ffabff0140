/-
  FIRST, what its walk needs: new blocks that nobody touches yet; what the caller keeps; fronts; the turning of the tags at a go statement.
-/
import Derived.Test.YtdajdembeacefaaAK
import Derived.Test.YtdajdembeacefaaY
set_option linter.unusedSimpArgs false
set_option linter.unusedVariables false
namespace Go.Proofs.Ytdajdembeacefaa.M
open Go.Conc
open Go.ConcR (KK wgBlock WgAt stA smA rd wr mk)

section
variable {x : Th} {St : Gh → Goroutine → World → Prop} {O : Gh} {w : World} {b : Frame} {n : Nat} {f : Nat → Value} {ds : List Deferred} {k : List Item} {cs : List Frame} {all os : List Oper} {i : Nat} {o : Oper} {d : Nat} {t : TypeId} {p : String} {e : Array Edge}

theorem stepG_scope {P : Program} {main : Bool} {a : Act} {c : Code} : stepG P main (G (b.at a (.code (.scope c) :: k)) cs) w = .go (G (b.at a (.code c :: .inScope c :: k)) cs) w := by simp [G, stepG, stepG.exec, Frame.at]
theorem t_scope {c : Code} (h : Tree P x St O (G (Fr b n f ds (.code c :: .inScope c :: k)) cs) w) : Tree P x St O (G (Fr b n f ds (.code (.scope c) :: k)) cs) w := t_ctl rfl (fun _ => stepG_scope) h

theorem Moves.growF {w : World} {o : Obj} (hx : x.id = 0) : Moves x O w (O.with w.heap.size .fresh) (M.grow w o) #[] := by
  refine ⟨by simp [M.grow], rfl, rfl, rfl, rfl, fun b hb => Gh.with_ne O _ (by omega), fun b h1 h2 => ?_, fun b hb _ => ?_, fun b hb _ => ?_, by simp⟩
  · simp only [M.grow, Array.size_push] at h2
    obtain rfl : b = w.heap.size := by omega
    exact .inr ⟨hx, Gh.with_same O _ _⟩
  · simp only [M.grow]; rw [Array.getElem?_push_lt hb]; simp [hb]
  · unfold World.cell?; simp only [M.grow]; rw [Array.getElem?_push_lt hb]; simp [hb]
theorem Rel.growT (w : World) (o : Obj) (tg : Tag) : Rel x O w (O.with w.heap.size tg) (M.grow w o) := by
  have hk : ∀ b, b < w.heap.size → (M.grow w o).heap[b]? = w.heap[b]? := fun b hb => by simp only [M.grow]; rw [Array.getElem?_push_lt hb]; simp [hb]
  exact ⟨by simp [M.grow], rfl, rfl, rfl, rfl, fun b hb _ => Gh.with_ne O _ (by omega), fun b hb _ h => by rw [Gh.with_ne O _ (by omega)]; exact h, fun b hb _ => hk b hb, fun b hb _ _ => cell?_congr (hk b hb) 0 none,
    fun _ b hb h => ⟨by rw [Gh.with_ne O _ (by omega)]; exact h, hk b hb⟩, fun b hb h => by rw [Gh.with_ne O _ (by omega)]; exact h, fun b hb _ => shape_congr (hk b hb)⟩
/-- A new block that nobody touches yet. -/
structure NewF (x : Th) (O : Gh) (w : World) (O1 : Gh) (w1 : World) (m : Nat) (o : Obj) : Prop where
  rel : Rel x O w O1 w1
  ge : w.heap.size ≤ m
  tag : O1.tag m = .fresh
  obj : w1.heap[m]? = some o
theorem NewF.rely {O1 O2 : Gh} {w1 w2 : World} {m : Nat} {o : Obj} (h : NewF x O w O1 w1 m o) (hx : x.id = 0) (r : Rel x O1 w1 O2 w2) : NewF x O w O2 w2 m o := by
  have hlt := (Array.getElem?_eq_some_iff.1 h.obj).1
  obtain ⟨h1, h2⟩ := r.fresh hx m hlt h.tag
  exact ⟨h.rel.trans r, h.ge, h1, h2.trans h.obj⟩
theorem t_newF {obj : Obj} {val : Nat → Value} (hx : x.id = 0) (hk : b.kind ≠ .early) (hg : o.guard = none)
    (hr : ∀ w, (execOp (ev n f) o).run P w = .ok (.value (val w.heap.size)) (grow w obj)) (he : ∀ w, (execOp (ev n f) o).events P w #[] = #[])
    (h : ∀ m O1 w1, NewF x O w O1 w1 m obj → InReg P x St O1 w1 b n (put f o.dst (val m)) ds all k cs (i + 1) os) :
    InReg P x St O w b n f ds all k cs i (o :: os) := by
  refine t_op hk hg fun O1 w1 r => ⟨_, _, O1.with w1.heap.size .fresh, hr w1, ?_, h w1.heap.size _ _ ⟨r.trans (Rel.growT w1 obj _), r.size, Gh.with_same _ _ _, Array.getElem?_push_size⟩⟩
  have : listed P b.fn ⟨mkT n f, ds⟩ o w1 = #[] := by unfold listed; rw [eval_mkT, he w1]; exact seen_none P _
  rw [this]; exact Moves.growF hx
theorem t_makeChan {ct el : TypeId} {dir : ChanDir} {info : TypeInfo} (hx : x.id = 0) (hk : b.kind ≠ .early) (ht : P.underlying ct = some (.chan dir el)) (hi : P.info? el = some info)
    (h : ∀ m O1 w1, NewF x O w O1 w1 m (.chan 0 #[] false 0 0 false) → InReg P x St O1 w1 b n (upd f d (.chan (some m))) ds all k cs (i + 1) os) :
    InReg P x St O w b n f ds all k cs i (⟨some d, .makeChan ct (.const (.int .i64 0)), t, p, e, none⟩ :: os) := by
  refine t_newF (o := ⟨some d, .makeChan ct (.const (.int .i64 0)), t, p, e, none⟩) (val := fun m => .chan (some m)) hx hk rfl (fun w => ?_) (fun w => ?_) h
  · have h1 := run_makeChan (w := w) ht hi .i64 0 (by omega) (by simp)
    simp only [execOp, ev]
    rw [Int.natCast_zero] at h1
    simp [h1, Result.andThen]
    rfl
  · have h1 := run_makeChan (w := w) ht hi .i64 0 (by omega) (by simp)
    have h2 := events_makeChan (w := w) ht hi .i64 0 (by omega) (by simp) #[]
    rw [Int.natCast_zero] at h1 h2
    simp only [execOp, ev]
    simp [h1, h2, Result.evThen]
theorem t_allocF {elem : TypeId} {z : Value} (hx : x.id = 0) (hk : b.kind ≠ .early) (hz : runL P (fun _ => none) (zeroValue elem) = some z)
    (h : ∀ m O1 w1, NewF x O w O1 w1 m (.cells z.cells elem) → InReg P x St O1 w1 b n (upd f d (.pointer (some ⟨m, 0, none⟩))) ds all k cs (i + 1) os) :
    InReg P x St O w b n f ds all k cs i (⟨some d, .alloc elem, t, p, e, none⟩ :: os) := by
  refine t_newF (o := ⟨some d, .alloc elem, t, p, e, none⟩) (val := fun m => .pointer (some ⟨m, 0, none⟩)) hx hk rfl (fun w => ?_) (fun w => ?_) h
  · have h1 := runL_run hz w
    simp only [execOp, Instr.alloc]
    simp [h1, newVar, newRow, run_newObj, Result.andThen]
    rfl
  · have h1 := runL_run hz w
    have h2 := runL_events hz w #[]
    simp only [execOp, Instr.alloc]
    simp [h1, h2, newVar, newRow, Result.evThen]
/-- A closure is made. -/
theorem x_makeFunc {L : Addr → Option Value} {ρ : Operand → Value} {d : Option Nat} {g : Option (Nat × Bool)} (fn : Fn) (a c : Array Operand) : runL P L (execOp ρ ⟨d, .makeFunc fn a c, t, p, e, g⟩) = some (.value (.func fn (a.map ρ) (c.map ρ))) := rfl
end

/-! ### what the caller keeps -/
structure Keep (O : Gh) (w : World) (O' : Gh) (w' : World) : Prop where
  size : w.heap.size ≤ w'.heap.size
  tape : w'.tape = w.tape
  os : w'.os = w.os
  output : w'.output = w.output
  deaf : O'.deaf = O.deaf
  own : ∀ b, b < w.heap.size → O.tag b = .mine 0 → O'.tag b = .mine 0 ∧ w'.heap[b]? = w.heap[b]?
  know : ∀ a v, ldOf x0 O w a = some v → ldOf x0 O' w' a = some v
theorem Rel.keep {O O' : Gh} {w w' : World} (r : Rel x0 O w O' w') : Keep O w O' w' :=
  ⟨r.size, r.tape, r.os, r.output, r.deaf, fun b hb h => ⟨(r.tags b hb (.inl h)).trans h, r.block b hb (.inl h)⟩, fun _ _ h => ldOf_rely r h⟩
theorem Keep.refl (O : Gh) (w : World) : Keep O w O w := (Rel.refl x0 O w).keep
theorem Keep.trans {O O1 O2 : Gh} {w w1 w2 : World} (h : Keep O w O1 w1) (k : Keep O1 w1 O2 w2) : Keep O w O2 w2 :=
  ⟨Nat.le_trans h.size k.size, k.tape.trans h.tape, k.os.trans h.os, k.output.trans h.output, k.deaf.trans h.deaf, fun b hb ht => by
    obtain ⟨h1, h2⟩ := h.own b hb ht
    obtain ⟨h3, h4⟩ := k.own b (Nat.lt_of_lt_of_le hb h.size) h1
    exact ⟨h3, h4.trans h2⟩, fun a v hv => k.know a v (h.know a v hv)⟩
theorem Keep.buf {sz : Nat} {O O' : Gh} {w w' : World} {m : Nat} {s : Value} {cs : List (Array Value)} (h : Buf sz x0 O w m s cs) (k : Keep O w O' w') : Buf sz x0 O' w' m s cs := by
  refine ⟨h.1, h.2.imp id fun ⟨cap, c, t, h1, h2, h3, h4, h5, h6⟩ => ?_⟩
  have hlt := (Array.getElem?_eq_some_iff.1 h3).1
  obtain ⟨h7, h8⟩ := k.own m hlt h2
  exact ⟨cap, c, t, h1, h7, h8.trans h3, h4, h5, h6⟩
/-- While the senders work: what was main's own is main's own, or nobody's to write. -/
structure Held (S : Nat) (Oc : Gh) (wc : World) (O : Gh) (w : World) : Prop where
  size : wc.heap.size ≤ w.heap.size
  tape : w.tape = wc.tape
  os : w.os = wc.os
  output : w.output = wc.output
  deaf : O.deaf = Oc.deaf
  own : ∀ b, b < wc.heap.size → Oc.tag b = .mine 0 → (O.tag b = .const ∨ (O.tag b = .mine 0 ∧ S ≤ b)) ∧ w.heap[b]? = wc.heap[b]?
/-- Before the first go statement main's own blocks are the tags' one kind. -/
def Plain (O : Gh) (w : World) : Prop := ∀ b, b < w.heap.size → O.tag b = .mine 0 ∨ O.tag b = .sync ∨ O.tag b = .fresh
theorem ldOf_plain {O : Gh} {w : World} (h : Plain O w) {a : Addr} {v : Value} (hl : ldOf x0 O w a = some v) : a.block < w.heap.size ∧ O.tag a.block = .mine 0 ∧ w.cell? a = some v := by
  have hc := ldOf_cell hl
  unfold ldOf at hl
  split at hl
  · rename_i hh
    refine ⟨hh.1, ?_, hc⟩
    rcases h a.block hh.1 with h1 | h1 | h1
    · exact h1
    · rcases hh.2 with h2 | ⟨_, h2, _⟩
      · rcases h2 with h2 | ⟨h2, _⟩ | ⟨h2, _⟩ <;> rw [h1] at h2 <;> cases h2
      · rw [h1] at h2; cases h2
    · rcases hh.2 with h2 | ⟨_, h2, _⟩
      · rcases h2 with h2 | ⟨h2, _⟩ | ⟨h2, _⟩ <;> rw [h1] at h2 <;> cases h2
      · rw [h1] at h2; cases h2
  · cases hl
theorem Held.know {S : Nat} {Oc O : Gh} {wc w : World} (h : Held S Oc wc O w) (hp : Plain Oc wc) : ∀ a v, ldOf x0 Oc wc a = some v → ldOf x0 O w a = some v := by
  intro a v hl
  obtain ⟨h1, h2, h3⟩ := ldOf_plain hp hl
  obtain ⟨h4, h5⟩ := h.own a.block h1 h2
  refine ldOf_of ?_ ?_
  · rcases h4 with h4 | ⟨h4, _⟩
    · exact .inr (.inl ⟨h4, .inl rfl⟩)
    · exact .inl h4
  · obtain ⟨b, o, s⟩ := a
    rw [cell?_congr h5]; exact h3
theorem Held.rel {S : Nat} {Oc O O1 : Gh} {wc w w1 : World} (h : Held S Oc wc O w) (r : Rel x0 O w O1 w1) : Held S Oc wc O1 w1 := by
  refine ⟨Nat.le_trans h.size r.size, r.tape.trans h.tape, r.os.trans h.os, r.output.trans h.output, r.deaf.trans h.deaf, fun b hb ht => ?_⟩
  obtain ⟨h1, h2⟩ := h.own b hb ht
  have hb1 := Nat.lt_of_lt_of_le hb h.size
  have hs : Sees x0 O b := by
    rcases h1 with h1 | ⟨h1, _⟩
    · exact .inr (.inl ⟨h1, .inl rfl⟩)
    · exact .inl h1
  rw [r.tags b hb1 hs, r.block b hb1 hs]
  exact ⟨h1, h2⟩
theorem Held.mod {S : Nat} {Oc O O1 : Gh} {wc w w1 : World} {m : Nat} (h : Held S Oc wc O w) (k : Mod O w O1 w1 m) (hm : wc.heap.size ≤ m) : Held S Oc wc O1 w1 := by
  refine ⟨Nat.le_trans h.size k.size, k.tape.trans h.tape, k.os.trans h.os, k.output.trans h.output, k.deaf.trans h.deaf, fun b hb ht => ?_⟩
  obtain ⟨h1, h2⟩ := h.own b hb ht
  have hb1 := Nat.lt_of_lt_of_le hb h.size
  rw [k.tags b hb1, k.block b hb1 (by omega)]
  exact ⟨h1, h2⟩
theorem Held.start {Oc : Gh} {wc : World} {O : Gh} (hd : O.deaf = Oc.deaf) (ht : ∀ b, b < wc.heap.size → Oc.tag b = .mine 0 → O.tag b = .mine 0) : Held 0 Oc wc O wc :=
  ⟨Nat.le_refl _, rfl, rfl, rfl, hd, fun b hb h => ⟨.inr ⟨ht b hb h, Nat.zero_le _⟩, rfl⟩⟩
/-- Behind the phase. -/
theorem Held.keep {S : Nat} {Oc O : Gh} {wc w : World} (h : Held S Oc wc O w) (hp : Plain Oc wc) : Keep Oc wc (reset O) w := by
  have hown : ∀ b, b < wc.heap.size → Oc.tag b = .mine 0 → (reset O).tag b = .mine 0 ∧ w.heap[b]? = wc.heap[b]? := by
    intro b hb ht
    obtain ⟨h1, h2⟩ := h.own b hb ht
    refine ⟨?_, h2⟩
    unfold reset
    rcases h1 with h1 | ⟨h1, _⟩ <;> simp only [h1]
  refine ⟨h.size, h.tape, h.os, h.output, h.deaf, hown, fun a v hl => ?_⟩
  obtain ⟨h1, h2, h3⟩ := ldOf_plain hp hl
  obtain ⟨h4, h5⟩ := hown a.block h1 h2
  refine ldOf_of (.inl h4) ?_
  obtain ⟨b, o, s⟩ := a
  rw [cell?_congr h5]; exact h3
theorem Buf.reset {sz : Nat} {O : Gh} {w : World} {m : Nat} {s : Value} {cs : List (Array Value)} (h : Buf sz x0 O w m s cs) : Buf sz x0 (M.reset O) w m s cs := by
  refine ⟨h.1, h.2.imp id fun ⟨cap, c, t, h1, h2, h3, h4, h5, h6⟩ => ⟨cap, c, t, h1, ?_, h3, h4, h5, h6⟩⟩
  unfold M.reset; simp only [h2]; rfl
/-- At a stop of 'Will' the tags are plain. -/
theorem will_plain {Post : Value → World → Prop} {O : Gh} {g : Goroutine} {w : World} (h : Plain O w → Will P Post O g w) : Will P Post O g w := by
  intro gs sl t Old q0 tag qo hF h0 hO
  exact h (by subst hO; exact fun b hb => hF.tags b hb) gs sl t Old q0 tag qo hF h0 hO

/-! ### fronts -/
structure FrOK (O : Gh) (w : World) (q : Fro) : Prop where
  tag : O.tag q.b = .front
  cell : w.heap[q.b]? = some (.cells q.cells 66 (0, 0))
theorem FrOK.known {O : Gh} {w : World} {q : Fro} (h : FrOK O w q) : KFro (ldOf x0 O w) q := by
  have hc : ∀ (i : Nat) (v : Value), q.cells[i]? = some v → ldOf x0 O w ⟨q.b, i, none⟩ = some v := fun i v hv => ldOf_of (.inr (.inr ⟨h.tag, rfl⟩)) (by unfold World.cell?; rw [h.cell]; simpa using hv)
  exact ⟨hc 0 _ rfl, hc 1 _ rfl, hc 2 _ rfl, hc 3 _ rfl, hc 4 _ rfl, hc 5 _ rfl⟩
theorem FrOK.rely {O O1 : Gh} {w w1 : World} {q : Fro} (h : FrOK O w q) (r : Rel x0 O w O1 w1) : FrOK O1 w1 q := by
  have hlt := (Array.getElem?_eq_some_iff.1 h.cell).1
  have hs : Sees x0 O q.b := .inr (.inr ⟨h.tag, rfl⟩)
  exact ⟨(r.tags _ hlt hs).trans h.tag, (r.block _ hlt hs).trans h.cell⟩
theorem FrOK.keep {O O1 : Gh} {w w1 : World} {q : Fro} {m : Nat} (h : FrOK O w q) (k : Mod O w O1 w1 m) (hm : q.b ≠ m) : FrOK O1 w1 q := by
  have hlt := (Array.getElem?_eq_some_iff.1 h.cell).1
  exact ⟨(k.tags _ hlt).trans h.tag, (k.block _ hlt hm).trans h.cell⟩
structure Fros (O : Gh) (w : World) (fro : List Fro) : Prop where
  ok : ∀ q ∈ fro, FrOK O w q
  nd : (fro.map Fro.b).Nodup
theorem Fros.rely {O O1 : Gh} {w w1 : World} {fro : List Fro} (h : Fros O w fro) (r : Rel x0 O w O1 w1) : Fros O1 w1 fro := ⟨fun q hq => (h.ok q hq).rely r, h.nd⟩
theorem Fros.keep {O O1 : Gh} {w w1 : World} {fro : List Fro} {m : Nat} (h : Fros O w fro) (k : Mod O w O1 w1 m) (hm : ∀ q ∈ fro, q.b ≠ m) : Fros O1 w1 fro := ⟨fun q hq => (h.ok q hq).keep k (hm q hq), h.nd⟩
theorem Fros.set {O O1 : Gh} {w w1 : World} {fro : List Fro} {i : Nat} {q q' : Fro} (h : Fros O w fro) (hi : fro[i]? = some q) (hb : q'.b = q.b) (k : Mod O w O1 w1 q.b) (hq : FrOK O1 w1 q') : Fros O1 w1 (fro.set i q') := by
  have hlt := (List.getElem?_eq_some_iff.1 hi).1
  have hmap : (fro.set i q').map Fro.b = fro.map Fro.b := by
    rw [List.map_set, hb]
    apply List.ext_getElem?
    intro j
    rw [List.getElem?_set]
    split
    · rename_i e; subst e
      rw [List.getElem?_map, hi, List.length_map]; simp [hlt]
    · rfl
  refine ⟨fun p hp => ?_, by rw [hmap]; exact h.nd⟩
  obtain ⟨j, hj⟩ := List.getElem?_of_mem hp
  by_cases hne : i = j
  · subst hne
    rw [List.getElem?_set_self hlt] at hj
    cases hj; exact hq
  · rw [List.getElem?_set_ne hne] at hj
    refine (h.ok p (List.mem_of_getElem? hj)).keep k fun e => hne ?_
    have h1 : (fro.map Fro.b)[j]? = some p.b := by rw [List.getElem?_map, hj]; rfl
    have h2 : (fro.map Fro.b)[i]? = some q.b := by rw [List.getElem?_map, hi]; rfl
    rw [e] at h1
    have hjl := (List.getElem?_eq_some_iff.1 hj).1
    exact (List.getElem?_inj (by simpa using hlt) h.nd).1 (h2.trans h1.symm)
end Go.Proofs.Ytdajdembeacefaa.M

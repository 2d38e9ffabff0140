/-
  THE PHASE, 1: what is held of the machine while the senders work ('PInv'), and how it bears another's step.
-/
import Derived.Test.YtdajdembeacefaaG
import Derived.Conc.WrWorld
set_option linter.unusedSimpArgs false
set_option linter.unusedVariables false
namespace Go.Proofs.Ytdajdembeacefaa.M
open Go.Conc
open Go.ConcR (KK wgBlock WgAt stA smA rd wr mk)

/-! ### relies -/
/-- Blocks of synchronisation alone have turned. -/
structure STurn (tag : Nat → Tag) (w w1 : World) : Prop where
  size : w1.heap.size = w.heap.size
  tape : w1.tape = w.tape
  os : w1.os = w.os
  output : w1.output = w.output
  block : ∀ b, tag b ≠ .sync → w1.heap[b]? = w.heap[b]?
  shp : ∀ b, w1.shape? b = w.shape? b
theorem STurn.refl (tag : Nat → Tag) (w : World) : STurn tag w w := ⟨rfl, rfl, rfl, rfl, fun _ _ => rfl, fun _ => rfl⟩
theorem STurn.rel {tag : Nat → Tag} {w w1 : World} (h : STurn tag w w1) (x : Th) (d : Nat) : Rel x ⟨tag, d⟩ w ⟨tag, d⟩ w1 := by
  refine ⟨by rw [h.size]; exact Nat.le_refl _, h.tape, h.os, h.output, rfl, fun _ _ _ => rfl, fun _ _ _ h => h, fun b _ hs => h.block b ?_, fun b _ _ hf => cell?_congr (h.block b ?_) 0 none, fun _ b _ hf => ⟨hf, h.block b (by simp only at hf; rw [hf]; simp)⟩, fun _ _ h => h, fun b _ _ => h.shp b⟩
  · intro e; rcases hs with h | ⟨h, _⟩ | ⟨h, _⟩ <;> simp only at h <;> rw [e] at h <;> cases h
  · intro e; simp only at hf; rw [e] at hf; cases hf
theorem STurn.put {tag : Nat → Tag} {w : World} {c : Nat} {o : Obj} (h : tag c = .sync) (ho : ∀ a t f, o ≠ .cells a t f) (hn : w.shape? c = none) : STurn tag w { w with heap := w.heap.setIfInBounds c o } :=
  ⟨by simp, rfl, rfl, rfl, fun b hb => by
    have : c ≠ b := fun e => hb (e ▸ h)
    simp [Array.getElem?_setIfInBounds_ne this], fun b => by
    by_cases e : c = b
    · subst e
      rw [hn]
      unfold World.shape?
      by_cases hl : c < w.heap.size
      · simp only [Array.getElem?_setIfInBounds_self_of_lt hl]
        cases o <;> first | rfl | exact absurd rfl (ho _ _ _)
      · rw [Array.getElem?_eq_none (by simpa using hl)]
    · exact shape_congr (by simp [Array.getElem?_setIfInBounds_ne e])⟩
theorem chan_shape {w : World} {c : Nat} {k : Nat} {q : Array Value} {z : Bool} {s r : Nat} {tm : Bool} (h : w.heap[c]? = some (.chan k q z s r tm)) : w.shape? c = none := by unfold World.shape?; rw [h]
theorem shape_setCell (w : World) (a : Addr) (v : Value) (b : Nat) : (w.setCell a v).shape? b = w.shape? b := by
  unfold World.shape? World.setCell
  simp only [Array.getElem?_modify]
  by_cases e : a.block = b
  · subst e
    simp only [if_true]
    cases w.heap[a.block]? with
    | none => rfl
    | some o => cases o <;> simp <;> split <;> simp
  · simp only [if_neg e]
theorem STurn.aside {tag : Nat → Tag} {w w1 : World} {c : Nat} (h : tag c = .sync) (ha : Aside c w w1) (hs : ∀ b, w1.shape? b = w.shape? b) : STurn tag w w1 :=
  ⟨ha.size, ha.tape, ha.os, ha.output, fun b hb => ha.block b fun e => hb (e ▸ h), hs⟩
theorem Rel.at (x : Th) (O : Gh) (w : World) (d : Nat) : Rel x O w O (w.at d) :=
  ⟨Nat.le_refl _, rfl, rfl, rfl, rfl, fun _ _ _ => rfl, fun _ _ _ h => h, fun _ _ _ => rfl, fun _ _ _ _ => rfl, fun _ _ _ h => ⟨h, rfl⟩, fun _ _ h => h, fun _ _ _ => rfl⟩

theorem Moves.rel {y x : Th} {O O' : Gh} {w w' : World} {es : Array Event} (h : Moves y O w O' w' es) (hne : x.id ≠ y.id) (d : Nat) : Rel x ⟨O.tag, d⟩ w ⟨O'.tag, d⟩ w' := by
  refine ⟨h.size, h.tape, h.os, h.output, rfl, fun b hb _ => h.tags b hb, fun b hb _ hf => (h.tags b hb).trans hf, fun b hb hs => h.block b hb ?_, fun b hb _ hf => h.cell0 b hb hf, fun _ b hb hf => ⟨(h.tags b hb).trans hf, h.block b hb fun hw => by simp only at hf; rcases hw with h3 | ⟨h3, _⟩ <;> rw [hf] at h3 <;> cases h3⟩, fun b hb h1 => (h.tags b hb).trans h1, fun b hb h1 => shape_congr (h.block b hb fun hw => by simp only at h1; rcases hw with h3 | ⟨h3, _⟩ <;> rw [h1] at h3 <;> cases h3)⟩
  intro hw
  rcases hs with h1 | ⟨h1, _⟩ | ⟨h1, h2⟩ <;> simp only at h1 <;> rcases hw with h3 | ⟨h3, h4⟩ <;> rw [h1] at h3
  · exact hne (Tag.mine.inj h3)
  · cases h3
  · cases h3
  · cases h3
  · cases h3
  · exact hne (h2.trans h4.symm)
theorem Retag.rel {S : Nat} {O O' : Gh} (h : Retag S O O') {x : Th} (hx : x.id ≠ 0) (w : World) (d : Nat) : Rel x ⟨O.tag, d⟩ w ⟨O'.tag, d⟩ w := by
  refine ⟨Nat.le_refl _, rfl, rfl, rfl, rfl, fun b hb hs => ?_, fun b hb _ hf => ?_, fun _ _ _ => rfl, fun _ _ _ _ => rfl, fun h0 => absurd h0 hx, fun b _ h1 => ?_, fun _ _ _ => rfl⟩
  · rcases h.2 b with h1 | ⟨h1, _⟩ | ⟨h1, _⟩
    · exact h1
    · rcases hs with h2 | ⟨h2, _⟩ | ⟨h2, _⟩ <;> simp only at h2 <;> rw [h1] at h2
      · exact absurd (Tag.mine.inj h2).symm hx
      · cases h2
      · cases h2
    · rcases hs with h2 | ⟨h2, _⟩ | ⟨h2, _⟩ <;> simp only at h2 <;> rw [h1] at h2 <;> cases h2
  · rcases h.2 b with h1 | ⟨h1, _⟩ | ⟨h1, _⟩
    · exact h1.trans hf
    · simp only at hf; rw [h1] at hf; cases hf
    · simp only at hf; rw [h1] at hf; cases hf
  · simp only at h1 ⊢
    rcases h.2 b with h2 | ⟨h2, _⟩ | ⟨h2, _⟩
    · exact h2.trans h1
    · rw [h1] at h2; cases h2
    · rw [h1] at h2; cases h2

theorem Tree.bind {P : Program} {x : Th} {St St' : Gh → Goroutine → World → Prop} (hst : ∀ O g w, St O g w → Tree P x St' O g w) {O : Gh} {g : Goroutine} {w : World} (h : Tree P x St O g w) : Tree P x St' O g w := by
  induction h with
  | @stop O g w h => exact hst O g w (h O w (Rel.refl x O w))
  | step K hs h _ ih => exact .step K hs h ih

theorem TreeR.running {P : Program} {x : Th} {St : Gh → Goroutine → World → Prop} {r : Rk} {O : Gh} {g : Goroutine} {w : World} (hst : ∀ O g w, St O g w → g.status = .running) (h : TreeR P x St r O g w) : g.status = .running := by
  rcases h.cases with ⟨_, h⟩ | ⟨h, _⟩
  · exact hst O g w (h O w (Rel.refl x O w))
  · exact h
/-- At its stop. -/
def atStop : Rk := .s fun _ => .z
theorem TreeR.stop {P : Program} {x : Th} {St : Gh → Goroutine → World → Prop} {O : Gh} {g : Goroutine} {w : World} (h : ∀ O1 w1, Rel x O w O1 w1 → St O1 g w1) : TreeR P x St atStop O g w := .inl h

theorem Slip.running {P : Program} {St : Nat → Goroutine → Prop} (hst : ∀ d g, St d g → g.status = .running) : ∀ {n d : Nat} {g : Goroutine}, Slip P St n d g → g.status = .running
  | 0, _, _, h => hst _ _ h
  | _ + 1, _, _, h => h.elim (hst _ _) fun h => h.1

/-! ### the senders' and main's stages -/
inductive Stage where
  | run (l : List Value)
  | clo
  | add
  | d2
  | d3
  | d4
  | gone
def Stage.wt : Stage → Nat
  | .run l => 10 + l.length
  | .clo => 9
  | .add => 8
  | .d2 => 3
  | .d3 => 2
  | .d4 => 1
  | .gone => 0
def Stage.left : Stage → List Value
  | .run l => l
  | _ => []
def Stage.al : Stage → Nat
  | .run _ | .clo | .add => 1
  | _ => 0
/-- Not between its count and its end. -/
def Stage.plain : Stage → Prop
  | .d2 | .d3 | .d4 => False
  | _ => True
structure Sd where
  c : Nat
  S : Nat
  rel : Option Nat
  st : Stage
  q : Nat
  pk : Bool
  rk : Rk
def Sd.snd (s : Sd) : Snd := (s.c, s.st.left)
def Sd.L (s : Sd) : Nat × Option Nat := (s.S, s.rel)

def Open (w : World) (c : Nat) : Prop := ∃ s r tm, w.heap[c]? = some (.chan 0 #[] false s r tm)
def Shut (w : World) (c : Nat) : Prop := ∃ s r tm, w.heap[c]? = some (.chan 0 #[] true s r tm)
theorem Open.not_shut {w : World} {c : Nat} (h : Open w c) (h' : Shut w c) : False := by
  obtain ⟨s, r, tm, h⟩ := h; obtain ⟨s', r', tm', h'⟩ := h'; rw [h] at h'; cases h'

inductive MSt where
  | A (F : Nat)
  | P (F j : Nat)
  | go (F : Nat)
  | anch
  | w2 (vs : Nat)
  | w3 (b : Bool)
  | w4
  | acq
def MSt.early : MSt → Prop
  | .A _ | .P _ _ | .go _ => True
  | _ => False
def MSt.fu : MSt → Nat
  | .A F | .P F _ | .go F => F + 1
  | _ => 0
def MSt.wt (al : Nat) : MSt → Nat
  | .A _ | .P _ _ => 7
  | .go _ => 6
  | .anch => 4
  | .w2 vs => if vs = al then 3 else 5
  | .w3 _ => 2
  | .w4 => 1
  | .acq => 0

section
variable (P : Program) (ty : TypeId) (Wg e : Nat)

def SParked (x : Th) (s : Sd) (l : List Value) (O : Gh) (w : World) (a : Goroutine) : Prop :=
  ∃ g v l' z z2, l = v :: l' ∧ a = parked g #[scase s.c v z, rcase e z2] .select ∧ g.status = .running ∧ g.offers = none ∧
    (∀ w, stepG P false g w = .comm g #[scase s.c v z, rcase e z2] true .select w #[]) ∧
    ∀ O1 w1, Rel x O w O1 w1 → SRun P ty Wg e x s.c l' O1 (Go.Conc.served g (selSent z2)) w1 ∧ Tree P x (AtClose P ty Wg x s.c) O1 (Go.Conc.served g (selShut z2)) w1

def SOK (x : Th) (O : Gh) (w : World) (s : Sd) (a : Goroutine) : Prop := match s.st with
  | .run l => s.rel = none ∧ s.q = 0 ∧ Open w s.c ∧ match s.pk with
    | true => SParked P ty Wg e x s l O w a
    | false => ∃ g o, a = { g with offers := o } ∧ g.status = .running ∧ TreeR P x (SStop P ty Wg e x s.c l) s.rk O g w
  | .clo => s.rel = none ∧ s.q = 0 ∧ Shut w s.c ∧ s.pk = false ∧ TreeR P x (AtR0 P ty Wg) s.rk O a w
  | .add => s.rel ≠ none ∧ Shut w s.c ∧ s.pk = false ∧ Slip P (AtD1 P ty Wg) s.q O.deaf a
  | .d2 => s.rel ≠ none ∧ Shut w s.c ∧ s.pk = false ∧ Slip P (AtD2 P ty Wg) s.q O.deaf a
  | .d3 => s.rel ≠ none ∧ Shut w s.c ∧ s.pk = false ∧ Slip P (AtD3 P ty Wg) s.q O.deaf a
  | .d4 => s.rel ≠ none ∧ Shut w s.c ∧ s.pk = false ∧ Slip P (AtD4 P ty Wg) s.q O.deaf a
  | .gone => s.rel ≠ none ∧ Shut w s.c ∧ s.pk = false ∧ QuitsD P s.q O.deaf a

variable (AnchW Fin : Gh → Goroutine → World → Prop)
def MOK (Sm : Nat) (sn : List Snd) (O : Gh) (w : World) (m : MSt) (rm : Rk) (a : Goroutine) : Prop := match m with
  | .A F => ∃ g o, a = { g with offers := o } ∧ g.status = .running ∧ TreeR P x0 (MStop P ty Wg e AnchW (MRun P ty Wg e AnchW F) Sm sn) rm O g w
  | .P F j => ∃ g c l z, sn[j]? = some (c, l) ∧ a = parked g #[rcase c z] (.recv true) ∧ g.status = .running ∧ g.offers = none ∧
      (∀ w, stepG P true g w = .comm g #[rcase c z] true (.recv true) w #[]) ∧ ∀ O1 w1, Rel x0 O w O1 w1 → RecvNext (MRun P ty Wg e AnchW F) Sm sn j c l z O1 g w1
  | .go F => TreeR P x0 (AtGo P ty Wg e (MRun P ty Wg e AnchW F) Sm sn) rm O a w
  | .anch => TreeR P x0 (AtW1 P ty Wg Fin AnchW) rm O a w
  | .w2 vs => vs ≠ 0 ∧ TreeR P x0 (AtW2 P ty Wg Fin AnchW vs) rm O a w
  | .w3 false => TreeR P x0 (AtW3 P ty Wg Fin) rm O a w
  | .w3 true => ∃ g, a = { g with status := .blocked } ∧ g.status = .running ∧ g.offers = none ∧ ∀ O1 w1, Rel x0 O w O1 w1 → AtW3 P ty Wg Fin O1 g w1
  | .w4 => TreeR P x0 (AtW4 P ty Wg Fin) rm O a w
  | .acq => TreeR P x0 (AtAcq P Wg Fin) rm O a w

def al (SD : List Sd) : Nat := (SD.map fun s => s.st.al).sum
def WgOK (m : MSt) (SD : List Sd) (w : World) : Prop := match m with
  | .go _ => WgAt ty Wg w ((al SD + 1 : Nat) * KK) 0 ∧ ∀ s ∈ SD, s.st.plain
  | .w3 _ => (0 < al SD ∧ WgAt ty Wg w ((al SD : Nat) * KK + 1) 0 ∧ ∀ s ∈ SD, s.st.plain) ∨
      (∃ (k : Nat) (s : Sd), SD[k]? = some s ∧ (∀ (j : Nat) (s' : Sd), j ≠ k → SD[j]? = some s' → s'.st = .gone) ∧ (((s.st = .d2 ∨ s.st = .d3) ∧ WgAt ty Wg w 1 0) ∨ (s.st = .d4 ∧ WgAt ty Wg w 0 0))) ∨
      ((∀ s ∈ SD, s.st = .gone) ∧ WgAt ty Wg w 0 1)
  | .w4 | .acq => (∀ s ∈ SD, s.st = .gone) ∧ WgAt ty Wg w 0 0
  | _ => WgAt ty Wg w ((al SD : Nat) * KK) 0 ∧ ∀ s ∈ SD, s.st.plain

/-- WHAT IS HELD while the senders work. -/
structure PInv (Old : Loc → Prop) (q0 : Nat) (tag : Nat → Tag) (SD : List Sd) (m : MSt) (rm : Rk) (qo : Nat → Nat) (Sm : Nat) (gs : Array Goroutine) (w : World) (t : Trace) : Prop where
  size : gs.size = q0 + SD.length
  hq : 0 < q0
  len : SD.length ≤ 2147483646
  old : ∀ (i : Nat) (a : Goroutine), 0 < i → i < q0 → gs[i]? = some a → QuitsD P (qo i) (Deaf t i) a
  above : ∀ i, gs.size ≤ i → Deaf t i = 0
  main : ∃ a, gs[0]? = some a ∧ MOK P ty Wg e AnchW Fin Sm (SD.map Sd.snd) ⟨tag, Deaf t 0⟩ w m rm a
  snd : ∀ (j : Nat) (s : Sd), SD[j]? = some s → ∃ a, gs[q0 + j]? = some a ∧ SOK P ty Wg e ⟨q0 + j, s.S⟩ ⟨tag, Deaf t (q0 + j)⟩ w s a
  ti : TI Old Wg q0 w.heap.size tag (SD.map Sd.L) t
  hold : ∀ l, Old l → ∃ b, blk l = some b ∧ b < w.heap.size ∧ tag b = .sync
  wgt : tag Wg = .sync ∧ Wg < w.heap.size
  et : tag e = .sync ∧ e ≠ Wg
  chans : ∀ (j : Nat) (s : Sd), SD[j]? = some s → tag s.c = .sync ∧ s.c ≠ e ∧ s.c ≠ Wg ∧ s.S ≤ Sm
  dist : ∀ (j k : Nat) (s s' : Sd), SD[j]? = some s → SD[k]? = some s' → s.c = s'.c → j = k
  hSm : Sm ≤ w.heap.size
  tags : ∀ b, b < w.heap.size → ∀ y, q0 + SD.length ≤ y → tag b ≠ .mine y
  eopen : (m.early → Open w e) ∧ (¬ m.early → Shut w e)
  wg : WgOK ty Wg m SD w
  pks : ¬ m.early → ∀ s ∈ SD, s.pk = false
  blkd : m = .w3 true → ∃ s ∈ SD, s.st ≠ .gone
  recv : ∀ F j, m = .P F j → ∃ (s : Sd) (l : List Value), SD[j]? = some s ∧ s.st = .run l ∧ s.pk = false
end

section
variable {P : Program} {ty : TypeId} {Wg e : Nat} {AnchW Fin : Gh → Goroutine → World → Prop} {x : Th} {O O' : Gh} {w w' : World} {s : Sd} {a : Goroutine}

theorem SOK.rely (h : SOK P ty Wg e x O w s a) (r : Rel x O w O' w') (ho : Open w s.c → Open w' s.c) (hs : Shut w s.c → Shut w' s.c) : SOK P ty Wg e x O' w' s a := by
  unfold SOK at h ⊢
  cases hst : s.st with
  | run l =>
    simp only [hst] at h ⊢
    obtain ⟨h1, h2, h3, h4⟩ := h
    refine ⟨h1, h2, ho h3, ?_⟩
    cases hp : s.pk with
    | true =>
      simp only [hp] at h4 ⊢
      obtain ⟨g, v, l', z, z2, e1, e2, e3, e4, e5, e6⟩ := h4
      exact ⟨g, v, l', z, z2, e1, e2, e3, e4, e5, fun O1 w1 r1 => e6 O1 w1 (r.trans r1)⟩
    | false =>
      simp only [hp] at h4 ⊢
      obtain ⟨g, o, e1, e2, e3⟩ := h4
      exact ⟨g, o, e1, e2, e3.rely r⟩
  | clo => simp only [hst] at h ⊢; exact ⟨h.1, h.2.1, hs h.2.2.1, h.2.2.2.1, h.2.2.2.2.rely r⟩
  | _ => simp only [hst] at h ⊢; rw [r.deaf]; exact ⟨h.1, hs h.2.1, h.2.2⟩

theorem again_sel_open {g : Goroutine} {c : Nat} {v z z2 : Value} (hc : Open w c) (he : Open w e) : (parked g #[scase c v z, rcase e z2] .select).again w = parked g #[scase c v z, rcase e z2] .select := by
  obtain ⟨_, _, _, hc⟩ := hc; obtain ⟨_, _, _, he⟩ := he
  simp [Goroutine.again, parked, rcase, scase, hc, he]
theorem again_sel_shut {g : Goroutine} {c : Nat} {v z z2 : Value} (he : Shut w e) : (parked g #[scase c v z, rcase e z2] .select).again w = { parked g #[scase c v z, rcase e z2] .select with status := .running } := by
  obtain ⟨_, _, _, he⟩ := he
  simp [Goroutine.again, parked, rcase, scase, he]
theorem again_eq {g : Goroutine} (h : g.status = .running) (w : World) : g.again w = g := again_running w (.inl h)

theorem SOK.status (h : SOK P ty Wg e x O w s a) (hp : s.pk = false) : a.status = .running ∨ (a.status = .finished ∧ s.st = .gone) := by
  unfold SOK at h
  cases hst : s.st with
  | run l =>
    simp only [hst, hp] at h
    obtain ⟨_, _, _, g, o, rfl, h, _⟩ := h
    exact .inl h
  | clo => simp only [hst] at h; exact .inl (h.2.2.2.2.running fun _ _ _ h => h.1)
  | add => simp only [hst] at h; exact .inl (h.2.2.2.running fun _ _ h => h.1)
  | d2 => simp only [hst] at h; exact .inl (h.2.2.2.running fun _ _ h => h.1)
  | d3 => simp only [hst] at h; exact .inl (h.2.2.2.running fun _ _ h => h.1)
  | d4 => simp only [hst] at h; exact .inl (h.2.2.2.running fun _ _ h => h.1)
  | gone => simp only [hst] at h; exact h.2.2.2.status.imp id fun h => ⟨h, rfl⟩

theorem SOK.again_keep (h : SOK P ty Wg e x O w s a) (he : s.pk = true → Open w e) : a.again w = a := by
  cases hp : s.pk with
  | false => exact again_running w ((h.status hp).imp id fun h => h.1)
  | true =>
    have he := he hp
    unfold SOK at h
    cases hst : s.st with
    | run l =>
      simp only [hst, hp] at h
      obtain ⟨_, _, hc, g, v, l', z, z2, _, rfl, _⟩ := h
      exact again_sel_open hc he
    | clo => simp only [hst] at h; rw [hp] at h; cases h.2.2.2.1
    | _ => simp only [hst] at h; rw [hp] at h; cases h.2.2.1

theorem SOK.wake (h : SOK P ty Wg e x O w s a) (he : Shut w e) : ∃ rk, SOK P ty Wg e x O w { s with pk := false, rk := rk } (a.again w) := by
  cases hp : s.pk with
  | false =>
    refine ⟨s.rk, ?_⟩
    rw [again_running w ((h.status hp).imp id fun h => h.1)]
    have : ({ s with pk := false, rk := s.rk } : Sd) = s := by cases s; simp_all
    rw [this]; exact h
  | true =>
    refine ⟨atStop, ?_⟩
    unfold SOK at h ⊢
    cases hst : s.st with
    | run l =>
      simp only [hst, hp] at h ⊢
      obtain ⟨h1, h2, hc, g, v, l', z, z2, rfl, rfl, h3, h4, h5, h6⟩ := h
      refine ⟨h1, h2, hc, g, some (#[scase s.c v z, rcase e z2], .select), ?_, h3, TreeR.stop fun O1 w1 r => ⟨h3, h4, z, z2, h5, fun O2 w2 r2 => h6 O2 w2 (r.trans r2)⟩⟩
      rw [again_sel_shut he]
      cases g; simp only at h3; subst h3; rfl
    | clo => simp only [hst] at h; rw [hp] at h; cases h.2.2.2.1
    | _ => simp only [hst] at h; rw [hp] at h; cases h.2.2.1

variable {Sm : Nat} {sn : List Snd} {m : MSt} {rm : Rk}
theorem MOK.rely (h : MOK P ty Wg e AnchW Fin Sm sn O w m rm a) (r : Rel x0 O w O' w') : MOK P ty Wg e AnchW Fin Sm sn O' w' m rm a := by
  unfold MOK at h ⊢
  match m, h with
  | .A F, ⟨g, o, h1, h2, h3⟩ => exact ⟨g, o, h1, h2, h3.rely r⟩
  | .P F j, ⟨g, c, l, z, h1, h2, h3, h4, h5, h6⟩ => exact ⟨g, c, l, z, h1, h2, h3, h4, h5, fun O1 w1 r1 => h6 O1 w1 (r.trans r1)⟩
  | .go F, h => exact TreeR.rely h r
  | .anch, h => exact TreeR.rely h r
  | .w2 vs, h => exact ⟨h.1, TreeR.rely h.2 r⟩
  | .w3 false, h => exact TreeR.rely h r
  | .w3 true, ⟨g, h1, h2, h3, h4⟩ => exact ⟨g, h1, h2, h3, fun O1 w1 r1 => h4 O1 w1 (r.trans r1)⟩
  | .w4, h => exact TreeR.rely h r
  | .acq, h => exact TreeR.rely h r

theorem MOK.swap {sn' : List Snd} (h : MOK P ty Wg e AnchW Fin Sm sn O w m rm a) (hm : sn' = sn ∨ ¬ m.early) : MOK P ty Wg e AnchW Fin Sm sn' O w m rm a := by
  rcases hm with rfl | hm
  · exact h
  · cases m with
    | A F => exact absurd trivial hm
    | P F j => exact absurd trivial hm
    | go F => exact absurd trivial hm
    | w3 b => cases b <;> exact h
    | _ => exact h

theorem MStop.running {Next : Nat → List Snd → Gh → Goroutine → World → Prop} {S : Nat} {g : Goroutine} (h : MStop P ty Wg e AnchW Next S sn O g w) : g.status = .running := h.elim (·.1) fun h => h.elim (·.1) (·.1)

theorem MOK.status (h : MOK P ty Wg e AnchW Fin Sm sn O w m rm a) : a.status = .running ∨ (∃ F j, m = .P F j) ∨ (m = .w3 true ∧ a.status = .blocked ∧ a.offers = none) := by
  unfold MOK at h
  match m, h with
  | .A F, ⟨g, o, h1, h2, h3⟩ => subst h1; exact .inl h2
  | .P F j, _ => exact .inr (.inl ⟨F, j, rfl⟩)
  | .go F, h => exact .inl (TreeR.running (fun _ _ _ h => h.1) h)
  | .anch, h => exact .inl (TreeR.running (fun _ _ _ h => h.1) h)
  | .w2 vs, h => exact .inl (TreeR.running (fun _ _ _ h => h.1) h.2)
  | .w3 false, h => exact .inl (TreeR.running (fun _ _ _ h => h.1) h)
  | .w3 true, ⟨g, h1, h2, h3, h4⟩ => subst h1; exact .inr (.inr ⟨rfl, rfl, h3⟩)
  | .w4, h => exact .inl (TreeR.running (fun _ _ _ h => h.1) h)
  | .acq, h => exact .inl (TreeR.running (fun _ _ _ h => h.1) h)

/-- Let try again: nothing turns, or main, blocked at the group, runs. -/
theorem MOK.again_keep (h : MOK P ty Wg e AnchW Fin Sm sn O w m rm a) (hP : ∀ F j c l, m = .P F j → sn[j]? = some (c, l) → Open w c) :
    ∃ m' rm', MOK P ty Wg e AnchW Fin Sm sn O w m' rm' (a.again w) ∧ ((m' = m ∧ m ≠ .w3 true) ∨ (m = .w3 true ∧ m' = .w3 false)) := by
  rcases h.status with hr | ⟨F, j, rfl⟩ | ⟨rfl, _⟩
  · rw [again_eq hr]
    exact ⟨m, rm, h, .inl ⟨rfl, fun e => by
      subst e
      obtain ⟨g, rfl, _⟩ := h
      cases hr⟩⟩
  · refine ⟨.P F j, rm, ?_, .inl ⟨rfl, by simp⟩⟩
    have h' := h
    obtain ⟨g, c, l, z, h1, rfl, _⟩ := h'
    obtain ⟨_, _, _, hc⟩ := hP F j c l rfl h1
    rw [again_recv_open hc]; exact h
  · obtain ⟨g, rfl, h2, h3, h4⟩ := h
    refine ⟨.w3 false, atStop, ?_, .inr ⟨rfl, rfl⟩⟩
    rw [Go.ConcR.again_blocked h2 h3]
    exact TreeR.stop h4
theorem MOK.wake {F j c : Nat} {l : List Value} (h : MOK P ty Wg e AnchW Fin Sm sn O w (.P F j) rm a) (hj : sn[j]? = some (c, l)) (hc : Shut w c) : MOK P ty Wg e AnchW Fin Sm sn O w (.A F) atStop (a.again w) := by
  obtain ⟨g, c', l', z, h1, rfl, h2, h3, h4, h5⟩ := h
  rw [hj] at h1; cases h1
  obtain ⟨_, _, _, hc⟩ := hc
  refine ⟨g, some (#[rcase c z], .recv true), ?_, h2, TreeR.stop fun O1 w1 r => .inr (.inl ⟨h2, h3, j, c, l, z, hj, h4, fun O2 w2 r2 => h5 O2 w2 (r.trans r2)⟩)⟩
  rw [again_recv_closed hc]
  cases g; simp only at h2; subst h2; rfl
end
end Go.Proofs.Ytdajdembeacefaa.M

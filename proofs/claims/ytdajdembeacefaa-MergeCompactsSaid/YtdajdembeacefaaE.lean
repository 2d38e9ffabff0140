/-
  THE TRACE, in the calculus: who knows which touches of memory, while one goroutine and the senders that it started work (by tags: whose a block is); no data race; what a sender has released.
-/
import Derived.Test.YtdajdembeacefaaA
import Derived.Conc.CrowdTrace
import Derived.Conc.WrSpec
set_option linter.unusedSimpArgs false
set_option linter.unusedVariables false
namespace Go.Proofs.Ytdajdembeacefaa.M
open Go.Conc
open Go.ConcN (PermW fork_knows)
open Go.ConcR (stA)

def blk : Loc → Option Nat
  | .cell a => some a.block
  | .obj r => some r
  | _ => none
def off0 (l : Loc) : Prop := ∃ a, l = .cell a ∧ a.off = 0
def OwnL (tag : Nat → Tag) (y : Nat) (l : Loc) : Prop := ∃ b, blk l = some b ∧ (tag b = .mine y ∨ (y = 0 ∧ tag b = .front ∧ ¬ off0 l))
def RdL (tag : Nat → Tag) (S : Nat) (y : Nat) (l : Loc) : Prop := ∃ b, blk l = some b ∧ (y = 0 ∨ b < S) ∧ (tag b = .const ∨ (tag b = .front ∧ off0 l))

/-- What thread x's event touches. -/
theorem ev_touch {x : Th} {O : Gh} {n : Nat} {e : Event} (h : Ev x O n e) {a : Touch} (ha : (MemAct.ofEvent e).touch? = some a) :
    (∃ b, blk a.loc = some b ∧ b < n) ∧
    ((a.kind = .plain ∧ (OwnL O.tag x.id a.loc ∨ (a.write = false ∧ RdL O.tag x.S x.id a.loc))) ∨
     (a.kind = .said ∧ x.id = 0 ∧ ∃ b, blk a.loc = some b ∧ O.tag b = .sync)) := by
  rcases h with ⟨ad, rfl, hb, h⟩ | ⟨ad, rfl, hb, h⟩ | ⟨r, h, hb, ht⟩ | rfl | rfl | rfl | ⟨ad, h, h0, hs, hb⟩
  · simp [MemAct.ofEvent, MemAct.touch?] at ha; subst ha
    refine ⟨⟨_, rfl, hb⟩, .inl ⟨rfl, .inl ⟨_, rfl, ?_⟩⟩⟩
    rcases h with h | ⟨h1, h2, h3⟩
    · exact .inl h
    · exact .inr ⟨h2, h1, fun ⟨a', e, h0⟩ => by cases e; exact h3 h0⟩
  · simp [MemAct.ofEvent, MemAct.touch?] at ha; subst ha
    refine ⟨⟨_, rfl, hb⟩, .inl ⟨rfl, ?_⟩⟩
    rcases h with (h | ⟨h1, h2⟩ | ⟨h1, h2⟩) | ⟨h1, h2, h3⟩
    · exact .inl ⟨_, rfl, .inl h⟩
    · exact .inr ⟨rfl, _, rfl, h2, .inl h1⟩
    · by_cases h0 : ad.off = 0
      · exact .inr ⟨rfl, _, rfl, .inl h2, .inr ⟨h1, ad, rfl, h0⟩⟩
      · exact .inl ⟨_, rfl, .inr ⟨h2, h1, fun ⟨a', e, h0'⟩ => by cases e; exact h0 h0'⟩⟩
    · exact .inr ⟨rfl, _, rfl, .inr h2, .inr ⟨h1, ad, rfl, h3⟩⟩
  · rcases h with rfl | rfl <;> (simp [MemAct.ofEvent, MemAct.touch?] at ha; subst ha; exact ⟨⟨_, rfl, hb⟩, .inl ⟨rfl, .inl ⟨_, rfl, .inl ht⟩⟩⟩)
  · cases ha
  · cases ha
  · cases ha
  · rcases h with rfl | rfl <;> (simp [MemAct.ofEvent, MemAct.touch?] at ha; subst ha; exact ⟨⟨_, rfl, hb⟩, .inr ⟨rfl, h0, _, rfl, hs⟩⟩)

theorem ev_low {x : Th} {O : Gh} {n : Nat} {e : Event} (h : Ev x O n e) : (MemAct.ofEvent e).low n := by
  rcases h with ⟨ad, rfl, hb, h⟩ | ⟨ad, rfl, hb, h⟩ | ⟨r, h, hb, ht⟩ | rfl | rfl | rfl | ⟨ad, h, h0, hs, hb⟩
  · exact hb
  · exact hb
  · rcases h with rfl | rfl <;> exact hb
  · trivial
  · trivial
  · trivial
  · rcases h with rfl | rfl <;> exact hb
theorem ev_norel {x : Th} {O : Gh} {n : Nat} {e : Event} (h : Ev x O n e) (a : Addr) : MemAct.ofEvent e ≠ .mark (.release a) := by
  rcases h with ⟨ad, rfl, hb, h⟩ | ⟨ad, rfl, hb, h⟩ | ⟨r, h, hb, ht⟩ | rfl | rfl | rfl | ⟨ad, h, h0, hs, hb⟩
  · intro e; cases e
  · intro e; cases e
  · rcases h with rfl | rfl <;> (intro e; cases e)
  · intro e; cases e
  · intro e; cases e
  · intro e; cases e
  · rcases h with rfl | rfl <;> (intro e; cases e)

/-- A sender's release: at r; what it touches behind r is the group's own, atomically, unheard. -/
structure RelAt (Wg : Nat) (t : Trace) (y r : Nat) : Prop where
  act : t.act? r = some (.mark (.releaseMerge (stA Wg)))
  g : t.g? r = some y
  heard : t.heard r
  after : ∀ (i : Nat) (op : MemOp) (a : Touch), t[i]? = some op → op.g = y → r < i → op.act.touch? = some a → a.loc.isMemory = true → a.kind = .atomic ∧ blk a.loc = some Wg ∧ ¬ t.heard i

/-- What is held of the trace while the senders (numbers q0, q0 + 1, ..; 'L': each one's heap size at its start, and where it has released) work. -/
structure TI (Old : Loc → Prop) (Wg q0 n : Nat) (tag : Nat → Tag) (L : List (Nat × Option Nat)) (t : Trace) : Prop where
  clean : ∀ said, ¬ Race said t
  seen : ∀ op ∈ t, op.act.low n
  gs : ∀ (i : Nat) (op : MemOp), t[i]? = some op → op.g < q0 + L.length
  own : ∀ y l, (y = 0 ∨ (q0 ≤ y ∧ y < q0 + L.length)) → OwnL tag y l → Perm t y l
  rd0 : ∀ l, RdL tag 0 0 l → PermW t 0 l
  rdS : ∀ (j S : Nat) (r : Option Nat), L[j]? = some (S, r) → ∀ l, RdL tag S (q0 + j) l → PermW t (q0 + j) l
  sync : ∀ (i : Nat) (op : MemOp) (a : Touch) (b : Nat), t[i]? = some op → op.act.touch? = some a → blk a.loc = some b → (tag b = .sync ∨ tag b = .fresh) → a.kind ≠ .plain ∧ (a.kind = .said → op.g = 0)
  known : ∀ (i : Nat) (op : MemOp) (a : Touch), t[i]? = some op → op.g < q0 → op.act.touch? = some a → a.loc.isMemory = true → Knows t 0 i ∨ (Old a.loc ∧ a.kind = .atomic)
  rel : ∀ (j S r : Nat), L[j]? = some (S, some r) → RelAt Wg t (q0 + j) r
  norel : ∀ op ∈ t, ∀ a, op.act ≠ .mark (.release a)
  over : ∀ (i g : Nat), t.g? i = some g → g < q0 → g ≠ 0 → t.counts i → ∃ j, t.g? j = some 0 ∧ HappensBefore t i j

theorem blk_mem {l : Loc} (h : l.isMemory = true) : ∃ b, blk l = some b := by
  cases l <;> simp [Loc.isMemory, blk] at h ⊢
theorem mem_of_touch {a : MemAct} {x : Touch} (h : a.touch? = some x) (hb : ∃ b, blk x.loc = some b) : x.loc.isMemory = true := by
  obtain ⟨b, hb⟩ := hb
  cases hl : x.loc <;> simp [hl, blk, Loc.isMemory] at hb ⊢

/-- An old touch lies in an old block. -/
theorem touch_low {n : Nat} {op : MemOp} {a : Touch} {b : Nat} (h : op.act.low n) (ha : op.act.touch? = some a) (hb : blk a.loc = some b) : b < n := by
  obtain ⟨g, fn, pos, act⟩ := op
  cases act with
  | access e =>
    simp [MemAct.touch?] at ha; subst ha
    simp only at hb
    cases hl : e.loc <;> simp [hl, blk] at hb
    · subst hb; simpa [MemAct.low, hl, Loc.low] using h
    · subst hb; simpa [MemAct.low, hl, Loc.low] using h
  | mark m =>
    cases m <;> simp [MemAct.touch?] at ha
    all_goals
      subst ha
      simp only [blk, Option.some.injEq] at hb
      subst hb
      simpa [MemAct.low] using h
  | _ => simp [MemAct.touch?] at ha

section
variable {Old : Loc → Prop} {Wg q0 n n' : Nat} {tag tag' : Nat → Tag} {L : List (Nat × Option Nat)} {t u : Trace}

theorem over_app (h : ∀ (i g : Nat), t.g? i = some g → g < q0 → g ≠ 0 → t.counts i → ∃ j, t.g? j = some 0 ∧ HappensBefore t i j)
    (hu : ∀ op ∈ u, (op.g = 0 ∨ q0 ≤ op.g) ∨ op.act.touch? = none) : ∀ (i g : Nat), (t ++ u).g? i = some g → g < q0 → g ≠ 0 → (t ++ u).counts i → ∃ j, (t ++ u).g? j = some 0 ∧ HappensBefore (t ++ u) i j := by
  intro i g hg hlt hne hc
  obtain ⟨x, hx, hxm, hxk⟩ := hc
  obtain ⟨op, hop, hox⟩ := touch_of hx
  have hog : op.g = g := by simpa [Trace.g?, hop] using hg
  rcases getElem?_append_cases hop with ⟨hi, hop'⟩ | ⟨_, hopu⟩
  · obtain ⟨j, hj, hb⟩ := h i g (by simp [Trace.g?, hop', hog]) hlt hne ((counts_old hi).1 ⟨x, hx, hxm, hxk⟩)
    have hjl : j < t.size := by
      unfold Trace.g? at hj
      obtain ⟨z, hz, _⟩ := Option.map_eq_some_iff.1 hj
      exact lt_size_of_getElem? hz
    exact ⟨j, by rw [g?_old hjl]; exact hj, hb_app u hb⟩
  · rcases hu op hopu with (h0 | h0) | h0
    · omega
    · omega
    · rw [h0] at hox; cases hox

/-- Where every old touch lies in a block whose tag stands, what was known is known. -/
theorem perm_old (hseen : ∀ op ∈ t, op.act.low n) {y : Nat} {l : Loc} {b : Nat} (hb : blk l = some b) (h : b < n → Perm t y l) : Perm t y l := by
  rcases Nat.lt_or_ge b n with hlt | hge
  · exact h hlt
  · intro i a ha hl
    obtain ⟨op, hop, hoa⟩ := touch_of ha
    have := touch_low (hseen op (mem_of_getElem? hop)) hoa (by rw [hl]; exact hb)
    omega
theorem permW_old (hseen : ∀ op ∈ t, op.act.low n) {y : Nat} {l : Loc} {b : Nat} (hb : blk l = some b) (h : b < n → PermW t y l) : PermW t y l := by
  rcases Nat.lt_or_ge b n with hlt | hge
  · exact h hlt
  · intro i a ha hl _
    obtain ⟨op, hop, hoa⟩ := touch_of ha
    have := touch_low (hseen op (mem_of_getElem? hop)) hoa (by rw [hl]; exact hb)
    omega

/-- What a thread may add to the trace: 'y' adds 'u'. -/
structure Adds (tag' : Nat → Tag) (n n' y S : Nat) (u : Trace) : Prop where
  g : ∀ op ∈ u, op.g = y
  low : ∀ op ∈ u, op.act.low n'
  norel : ∀ (a : Addr), ∀ op ∈ u, op.act ≠ .mark (.release a)
  touch : ∀ op ∈ u, ∀ a, op.act.touch? = some a → (a.kind = .plain ∧ (OwnL tag' y a.loc ∨ (a.write = false ∧ RdL tag' S y a.loc))) ∨ (a.kind = .said ∧ y = 0 ∧ ∃ b, blk a.loc = some b ∧ tag' b = .sync) ∨
    (a.kind = .atomic ∧ ∃ b, blk a.loc = some b ∧ tag' b = .sync)

theorem adds_of_moves {x : Th} {O O' : Gh} {w w' : World} {es : Array Event} (h : Moves x O w O' w' es) (fn : FuncId) (pos : String) : Adds O'.tag w.heap.size w'.heap.size x.id x.S (MemOp.ofEvents x.id fn pos es) := by
  refine ⟨fun op hop => ?_, fun op hop => ?_, fun a op hop => ?_, fun op hop a ha => ?_⟩ <;> obtain ⟨e, he, rfl⟩ := Go.Conc.mem_ofEvents hop
  · rfl
  · exact ev_low (h.evs e he)
  · exact ev_norel (h.evs e he) a
  · rcases (ev_touch (h.evs e he) ha).2 with h1 | h1
    · exact .inl h1
    · exact .inr (.inl h1)

/-- THE TRACE GROWS by operations of thread y: main, or a sender that has not released. -/
theorem TI.add (h : TI Old Wg q0 n tag L t) (hnn : n ≤ n') (htag : ∀ b, b < n → tag' b = tag b) {y S : Nat} (hu : Adds tag' n n' y S u) (hq : 0 < q0) (hold : ∀ l, Old l → ∃ b, blk l = some b ∧ b < n ∧ tag b = .sync)
    (hy : y = 0 ∨ ∃ j r, y = q0 + j ∧ L[j]? = some (S, r))
    (hr : ∀ (j S r : Nat), y = q0 + j → L[j]? = some (S, some r) → RelAt Wg (t ++ u) y r) : TI Old Wg q0 n' tag' L (t ++ u) := by
  have hyl : y < q0 + L.length := by
    rcases hy with rfl | ⟨j, r, rfl, hj⟩
    · omega
    · have := (List.getElem?_eq_some_iff.1 hj).1; omega
  have own_old : ∀ z l, (z = 0 ∨ (q0 ≤ z ∧ z < q0 + L.length)) → OwnL tag' z l → Perm t z l := by
    rintro z l hz ⟨b, hb, hl⟩
    exact perm_old h.seen hb fun hlt => h.own z l hz ⟨b, hb, by rwa [htag b hlt] at hl⟩
  have rd_old0 : ∀ l, RdL tag' 0 0 l → PermW t 0 l := by
    rintro l ⟨b, hb, hs, hl⟩
    exact permW_old h.seen hb fun hlt => h.rd0 l ⟨b, hb, hs, by rwa [htag b hlt] at hl⟩
  have rd_oldS : ∀ (j S : Nat) (r : Option Nat), L[j]? = some (S, r) → ∀ l, RdL tag' S (q0 + j) l → PermW t (q0 + j) l := by
    rintro j S r hj l ⟨b, hb, hs, hl⟩
    exact permW_old h.seen hb fun hlt => h.rdS j S r hj l ⟨b, hb, hs, by rwa [htag b hlt] at hl⟩
  have hown : ∀ l, OwnL tag' y l → Perm t y l := fun l hl => own_old y l (by rcases hy with rfl | ⟨j, r, rfl, hj⟩; exact .inl rfl; exact .inr ⟨by omega, hyl⟩) hl
  have hrd : ∀ l, RdL tag' S y l → PermW t y l := by
    intro l hl
    rcases hy with rfl | ⟨j, r, rfl, hj⟩
    · exact rd_old0 l (by obtain ⟨b, h1, h2, h3⟩ := hl; exact ⟨b, h1, .inl rfl, h3⟩)
    · exact rd_oldS j S r hj l hl
  have sync_old : ∀ (i : Nat) (op : MemOp) (a : Touch) (b : Nat), t[i]? = some op → op.act.touch? = some a → blk a.loc = some b → (tag' b = .sync ∨ tag' b = .fresh) → a.kind ≠ .plain ∧ (a.kind = .said → op.g = 0) := by
    intro i op a b hi ha hb ht
    have hlt := touch_low (h.seen op (mem_of_getElem? hi)) ha hb
    exact h.sync i op a b hi ha hb (by rw [← htag b hlt]; exact ht)
  refine ⟨fun said => ?_, fun op hop => ?_, fun i op hi => ?_, fun z l hz hl => ?_, fun l hl => ?_, fun j S r hj l hl => ?_, fun i op a b hi ha hb ht => ?_, fun i op a hi hg ha hm => ?_, fun j S r hj => ?_, fun op hop => ?_, over_app h.over fun op hop => ?_⟩
  · -- no race
    refine noRace_append (h.clean said) hu.g fun i a ha op hop c hc hcf => ?_
    obtain ⟨hloc, hmem, hwr, hkind⟩ := hcf
    obtain ⟨op', hop', hoa⟩ := touch_of ha
    rcases hu.touch op hop c hc with ⟨hk, ho | ⟨hw, hr'⟩⟩ | ⟨hk, rfl, b, hb, ht⟩ | ⟨hk, b, hb, ht⟩
    · exact hown c.loc ho i a ha hloc
    · exact hrd c.loc hr' i a ha hloc (hwr.resolve_right (by simp [hw]))
    · obtain ⟨h1, h2⟩ := sync_old i op' a b hop' hoa (by rw [hloc]; exact hb) (.inl ht)
      rcases hkind with hk' | hk' | ⟨_, hk', _⟩
      · exact absurd hk' h1
      · rw [hk] at hk'; cases hk'
      · have := h2 hk'
        have hk0 := knows_own hop'
        rwa [this] at hk0
    · obtain ⟨h1, h2⟩ := sync_old i op' a b hop' hoa (by rw [hloc]; exact hb) (.inl ht)
      rcases hkind with hk' | hk' | ⟨_, hk', hk''⟩
      · exact absurd hk' h1
      · rw [hk] at hk'; cases hk'
      · rw [hk] at hk''; cases hk''
  · rcases Array.mem_append.1 hop with h1 | h1
    · exact MemAct.low_mono hnn (h.seen op h1)
    · exact hu.low op h1
  · rcases getElem?_append_cases hi with ⟨_, h1⟩ | ⟨_, h1⟩
    · exact h.gs i op h1
    · rw [hu.g op h1]; exact hyl
  · refine (own_old z l hz hl).app fun op hop b hb e => ?_
    rw [hu.g op hop]
    obtain ⟨c, hc, hl'⟩ := hl
    rcases hu.touch op hop b hb with ⟨_, ⟨c', hc', ho⟩ | ⟨_, c', hc', _, ho⟩⟩ | ⟨_, _, c', hc', ho⟩ | ⟨_, c', hc', ho⟩ <;>
      (rw [e, hc] at hc'; cases hc')
    · rcases hl' with h1 | ⟨h1, h2, h3⟩ <;> rcases ho with h4 | ⟨h4, h5, h6⟩
      · rw [h1] at h4; cases h4; rfl
      · rw [h1] at h5; cases h5
      · rw [h2] at h4; cases h4
      · rw [h1, h4]
    · rcases hl' with h1 | ⟨h1, h2, h3⟩ <;> rcases ho with h4 | ⟨h4, h5⟩
      · rw [h1] at h4; cases h4
      · rw [h1] at h4; cases h4
      · rw [h2] at h4; cases h4
      · rw [e] at h5; exact absurd h5 h3
    · rcases hl' with h1 | ⟨h1, h2, h3⟩
      · rw [h1] at ho; cases ho
      · rw [h2] at ho; cases ho
    · rcases hl' with h1 | ⟨h1, h2, h3⟩
      · rw [h1] at ho; cases ho
      · rw [h2] at ho; cases ho
  · refine (rd_old0 l hl).app fun op hop b hb e hw => ?_
    rw [hu.g op hop]
    obtain ⟨c, hc, _, hl'⟩ := hl
    rcases hu.touch op hop b hb with ⟨_, ⟨c', hc', ho⟩ | ⟨hw', _⟩⟩ | ⟨_, hy0, _⟩ | ⟨_, c', hc', ho⟩
    · rw [e, hc] at hc'; cases hc'
      rcases hl' with h1 | ⟨h1, h2⟩ <;> rcases ho with h4 | ⟨h4, h5, h6⟩
      · rw [h1] at h4; cases h4
      · rw [h1] at h5; cases h5
      · rw [h1] at h4; cases h4
      · exact h4
    · rw [hw'] at hw; cases hw
    · exact hy0
    · rw [e, hc] at hc'; cases hc'
      rcases hl' with h1 | ⟨h1, h2⟩
      · rw [h1] at ho; cases ho
      · rw [h1] at ho; cases ho
  · refine (rd_oldS j S r hj l hl).app fun op hop b hb e hw => ?_
    exfalso
    obtain ⟨c, hc, _, hl'⟩ := hl
    rcases hu.touch op hop b hb with ⟨_, ⟨c', hc', ho⟩ | ⟨hw', _⟩⟩ | ⟨_, hy0, c', hc', ho⟩ | ⟨_, c', hc', ho⟩
    · rw [e, hc] at hc'; cases hc'
      rcases hl' with h1 | ⟨h1, h2⟩ <;> rcases ho with h4 | ⟨h4, h5, h6⟩
      · rw [h1] at h4; cases h4
      · rw [h1] at h5; cases h5
      · rw [h1] at h4; cases h4
      · rw [e] at h6; exact h6 h2
    · rw [hw'] at hw; cases hw
    · rw [e, hc] at hc'; cases hc'
      rcases hl' with h1 | ⟨h1, h2⟩
      · rw [h1] at ho; cases ho
      · rw [h1] at ho; cases ho
    · rw [e, hc] at hc'; cases hc'
      rcases hl' with h1 | ⟨h1, h2⟩
      · rw [h1] at ho; cases ho
      · rw [h1] at ho; cases ho
  · rcases getElem?_append_cases hi with ⟨_, h1⟩ | ⟨_, h1⟩
    · exact sync_old i op a b h1 ha hb ht
    · rcases hu.touch op h1 a ha with ⟨_, ⟨c', hc', ho⟩ | ⟨_, c', hc', _, ho⟩⟩ | ⟨hk, h0, _⟩ | ⟨hk, _⟩
      · rw [hb] at hc'; cases hc'
        rcases ho with h4 | ⟨_, h4, _⟩ <;> rcases ht with ht | ht <;> (rw [ht] at h4; cases h4)
      · rw [hb] at hc'; cases hc'
        rcases ho with h4 | ⟨h4, _⟩ <;> rcases ht with ht | ht <;> (rw [ht] at h4; cases h4)
      · exact ⟨by rw [hk]; simp, fun _ => by rw [hu.g op h1, h0]⟩
      · exact ⟨by rw [hk]; simp, fun e => by rw [hk] at e; cases e⟩
  · rcases getElem?_append_cases hi with ⟨_, h1⟩ | ⟨_, h1⟩
    · exact (h.known i op a h1 hg ha hm).imp (·.app u) id
    · left
      have := knows_own hi
      rcases hy with rfl | ⟨j, r, rfl, _⟩
      · rwa [hu.g op h1] at this
      · rw [hu.g op h1] at hg; omega
  · by_cases hyj : y = q0 + j
    · subst hyj; exact hr j S r rfl hj
    · have h1 := h.rel j S r hj
      have hrl : r < t.size := lt_of_act? h1.act
      refine ⟨by rw [act?_old hrl]; exact h1.act, by rw [g?_old hrl]; exact h1.g, (heard_old hrl).2 h1.heard, fun i op a hi hg hri ha hm => ?_⟩
      rcases getElem?_append_cases hi with ⟨hlt, h2⟩ | ⟨_, h2⟩
      · obtain ⟨x1, x2, x3⟩ := h1.after i op a h2 hg hri ha hm
        exact ⟨x1, x2, fun x => x3 ((heard_old hlt).1 x)⟩
      · rw [hu.g op h2] at hg; exact absurd hg hyj
  · rcases Array.mem_append.1 hop with h1 | h1
    · exact h.norel op h1
    · exact fun a => hu.norel a op h1
  · rw [hu.g op hop]
    rcases hy with rfl | ⟨j, r, rfl, _⟩
    · exact .inl (.inl rfl)
    · exact .inl (.inr (by omega))

/-- THE TRACE GROWS by operations that touch nothing (a communication; a mute word of whoever leaves). -/
theorem TI.quiet (h : TI Old Wg q0 n tag L t) (hg : ∀ op ∈ u, op.g < q0 + L.length) (hn : ∀ op ∈ u, op.act.touch? = none) (hl : ∀ op ∈ u, op.act.low n) (hr : ∀ op ∈ u, ∀ a, op.act ≠ .mark (.release a)) : TI Old Wg q0 n tag L (t ++ u) := by
  have old : ∀ {i : Nat} {op : MemOp} {a : Touch}, (t ++ u)[i]? = some op → op.act.touch? = some a → i < t.size ∧ t[i]? = some op := by
    intro i op a hi ha
    rcases getElem?_append_cases hi with h1 | ⟨_, h1⟩
    · exact h1
    · rw [hn op h1] at ha; cases ha
  refine ⟨fun said => ?_, seen_app h.seen hl, fun i op hi => ?_, fun z l hz hl' => (h.own z l hz hl').app fun op hop b hb _ => (by rw [hn op hop] at hb; cases hb), fun l hl' => (h.rd0 l hl').app fun op hop b hb _ _ => (by rw [hn op hop] at hb; cases hb),
    fun j S r hj l hl' => (h.rdS j S r hj l hl').app fun op hop b hb _ _ => (by rw [hn op hop] at hb; cases hb), fun i op a b hi ha hb ht => h.sync i op a b (old hi ha).2 ha hb ht,
    fun i op a hi hg' ha hm => (h.known i op a (old hi ha).2 hg' ha hm).imp (·.app u) id, fun j S r hj => ?_, fun op hop => (Array.mem_append.1 hop).elim (h.norel op) (hr op), over_app h.over fun op hop => .inr (hn op hop)⟩
  · rintro ⟨i, j, hij, ⟨a, b, ha, hb, hc⟩, n1, n2⟩
    obtain ⟨x, hx, hxa⟩ := touch_of ha
    obtain ⟨y, hy, hyb⟩ := touch_of hb
    have hx' := (old hx hxa).2
    have hy' := (old hy hyb).2
    exact h.clean said ⟨i, j, hij, ⟨a, b, by simp [Trace.act?, hx', hxa], by simp [Trace.act?, hy', hyb], hc⟩, fun e => n1 (hb_app u e), fun e => n2 (hb_app u e)⟩
  · rcases getElem?_append_cases hi with ⟨_, h1⟩ | ⟨_, h1⟩
    · exact h.gs i op h1
    · exact hg op h1
  · have h1 := h.rel j S r hj
    have hrl : r < t.size := lt_of_act? h1.act
    refine ⟨by rw [act?_old hrl]; exact h1.act, by rw [g?_old hrl]; exact h1.g, (heard_old hrl).2 h1.heard, fun i op a hi hg hri ha hm => ?_⟩
    obtain ⟨hlt, hi'⟩ := old hi ha
    obtain ⟨x1, x2, x3⟩ := h1.after i op a hi' hg hri ha hm
    exact ⟨x1, x2, fun x => x3 ((heard_old hlt).1 x)⟩

/-- A RELEASE: sender number j says 'release and merge', hearing. -/
theorem TI.release (h : TI Old Wg q0 n tag L t) {j S : Nat} (hj : L[j]? = some (S, none)) (hd : Deaf t (q0 + j) = 0) (hW : Wg < n) (fn : FuncId) (pos : String) :
    TI Old Wg q0 n tag (L.set j (S, some t.size)) (t ++ MemOp.ofEvents (q0 + j) fn pos #[Go.ConcR.mk (.releaseMerge (stA Wg))]) := by
  have hjl : j < L.length := (List.getElem?_eq_some_iff.1 hj).1
  have e1 : MemOp.ofEvents (q0 + j) fn pos #[Go.ConcR.mk (.releaseMerge (stA Wg))] = #[{ g := q0 + j, fn, pos, act := .mark (.releaseMerge (stA Wg)) }] := by rw [ofEvents_eq]; simp [Go.ConcR.mk, MemAct.ofEvent]
  rw [e1]
  have hy : (t ++ #[({ g := q0 + j, fn, pos, act := .mark (.releaseMerge (stA Wg)) } : MemOp)])[t.size]? = some { g := q0 + j, fn, pos, act := .mark (.releaseMerge (stA Wg)) } := by simp
  have h2 := h.quiet (u := #[{ g := q0 + j, fn, pos, act := .mark (.releaseMerge (stA Wg)) }]) (fun op hop => by simp at hop; subst hop; simp; omega) (fun op hop => by simp at hop; subst hop; rfl) (fun op hop => by simp at hop; subst hop; exact hW) (fun op hop => by simp at hop; subst hop; intro a e; cases e)
  refine ⟨h2.clean, h2.seen, fun i op hi => by rw [List.length_set]; exact h2.gs i op hi, fun z l hz hl => h2.own z l (by rw [List.length_set] at hz; exact hz) hl, h2.rd0, fun j' S' r' hj' l hl => ?_, h2.sync, h2.known, fun j' S' r' hj' => ?_, h2.norel, h2.over⟩
  · by_cases e : j = j'
    · subst e
      rw [List.getElem?_set_self hjl] at hj'; cases hj'
      exact h2.rdS j S none hj l hl
    · rw [List.getElem?_set_ne e] at hj'; exact h2.rdS j' S' r' hj' l hl
  · by_cases e : j = j'
    · subst e
      rw [List.getElem?_set_self hjl] at hj'; cases hj'
      refine ⟨by rw [act?_of hy], by simp [Trace.g?], ⟨q0 + j, by simp [Trace.g?], by rw [deaf_old (Nat.le_refl _)]; exact hd⟩, fun i op a hi _ hri => ?_⟩
      have := lt_size_of_getElem? hi
      simp at this
      omega
    · rw [List.getElem?_set_ne e] at hj'; exact h2.rel j' S' r' hj'

/-- Behind its release a sender's atomic accesses of the group, made deaf. -/
theorem RelAt.own {y r : Nat} (h : RelAt Wg t y r) (fn : FuncId) (pos : String) {es : Array Event} (hd : ∀ j, j ≤ es.size → 0 < deafBehind (Deaf t y) (es.extract 0 j))
    (hes : ∀ e ∈ es, (MemAct.ofEvent e).touch? = none ∨ ∃ a wr, e = ⟨.cell a, wr, true⟩ ∧ a.block = Wg) : RelAt Wg (t ++ MemOp.ofEvents y fn pos es) y r := by
  have hrl : r < t.size := lt_of_act? h.act
  refine ⟨by rw [act?_old hrl]; exact h.act, by rw [g?_old hrl]; exact h.g, (heard_old hrl).2 h.heard, fun i op a hi hg hri ha hm => ?_⟩
  rcases getElem?_append_cases hi with ⟨hlt, h2⟩ | ⟨hge, h2⟩
  · obtain ⟨x1, x2, x3⟩ := h.after i op a h2 hg hri ha hm
    exact ⟨x1, x2, fun x => x3 ((heard_old hlt).1 x)⟩
  · obtain ⟨e, he, rfl⟩ := Go.Conc.mem_ofEvents h2
    rcases hes e he with h3 | ⟨ad, wr, rfl, hb⟩
    · rw [h3] at ha; cases ha
    · simp [MemAct.ofEvent, MemAct.touch?] at ha
      subst ha
      refine ⟨rfl, by simp [blk, hb], ?_⟩
      rintro ⟨g, hg', hd0⟩
      have hgy : g = y := by simp [Trace.g?, hi] at hg'; exact hg'.symm
      subst hgy
      have hjs : i - t.size ≤ es.size := by
        have := lt_size_of_getElem? hi
        simp only [Array.size_append, ofEvents_eq, Array.size_map] at this
        omega
      have := deaf_inside t g fn pos es (i - t.size) hjs
      rw [show t.size + (i - t.size) = i by omega, hd0] at this
      have h3 := hd (i - t.size) hjs
      omega

/-- A go STATEMENT of main's: one sender more; tags of main's own blocks, new enough, turn to 'const' or 'front'. -/
theorem TI.spawn (h : TI Old Wg q0 n tag L t) (hq : 0 < q0) {x y : MemOp} (hx : x.g = 0 ∧ x.act = .go (q0 + L.length)) (hy : y.g = q0 + L.length ∧ y.act = .start) (h0 : Deaf t 0 = 0)
    (htag : ∀ b, b < n → tag' b = tag b ∨ (tag b = .mine 0 ∧ (tag' b = .const ∨ tag' b = .front) ∧ ∀ (j S : Nat) (r : Option Nat), L[j]? = some (S, r) → S ≤ b))
    (hnew : ∀ b, b < n → tag b ≠ .mine (q0 + L.length)) (hold : ∀ l, Old l → ∃ b, blk l = some b ∧ b < n ∧ tag b = .sync) :
    TI Old Wg q0 n tag' (L ++ [(n, none)]) (t ++ #[x, y]) := by
  have hk : Deaf t (q0 + L.length) = 0 := Go.ConcN.Deaf_absent fun i op hi e => by have := h.gs i op hi; omega
  have hnt : ∀ op ∈ #[x, y], op.act.touch? = none := by
    intro op hop
    simp only [List.mem_toArray, List.mem_cons, List.not_mem_nil, or_false] at hop
    rcases hop with rfl | rfl
    · rw [hx.2]; rfl
    · rw [hy.2]; rfl
  have old : ∀ {i : Nat} {op : MemOp} {a : Touch}, (t ++ #[x, y])[i]? = some op → op.act.touch? = some a → i < t.size ∧ t[i]? = some op := by
    intro i op a hi ha
    rcases getElem?_append_cases hi with h1 | ⟨_, h1⟩
    · exact h1
    · rw [hnt op h1] at ha; cases ha
  have oldT : ∀ {i : Nat} {a : Touch}, touchAt (t ++ #[x, y]) i = some a → touchAt t i = some a := by
    intro i a ha
    obtain ⟨z, hz, hza⟩ := touch_of ha
    rw [touchAt_of (old hz hza).2]; exact hza
  have appP : ∀ {z : Nat} {l : Loc}, Perm t z l → Perm (t ++ #[x, y]) z l := fun hp => hp.app fun op hop b hb _ => (by rw [hnt op hop] at hb; cases hb)
  have appW : ∀ {z : Nat} {l : Loc}, PermW t z l → PermW (t ++ #[x, y]) z l := fun hp => hp.app fun op hop b hb _ _ => (by rw [hnt op hop] at hb; cases hb)
  -- what main knows of the writes of const places
  have w0 : ∀ l, RdL tag' 0 0 l → PermW t 0 l := by
    rintro l ⟨b, hb, hs, hl⟩
    refine permW_old h.seen hb fun hlt => ?_
    rcases htag b hlt with e | ⟨e, _, _⟩
    · exact h.rd0 l ⟨b, hb, .inl rfl, by rwa [e] at hl⟩
    · exact PermW.of (h.own 0 l (.inl rfl) ⟨b, hb, .inl e⟩)
  refine ⟨fun said => ?_, seen_app h.seen (fun op hop => ?_), fun i op hi => ?_, fun z l hz hl => ?_, fun l hl => appW (w0 l hl), fun j S r hj l hl => ?_, fun i op a b hi ha hb ht => ?_, fun i op a hi hg ha hm => (h.known i op a (old hi ha).2 hg ha hm).imp (·.app _) id, fun j S r hj => ?_, fun op hop => ?_, over_app h.over fun op hop => .inr (hnt op hop)⟩
  · rintro ⟨i, j, hij, ⟨a, b, ha, hb, hc⟩, n1, n2⟩
    exact h.clean said ⟨i, j, hij, ⟨a, b, oldT ha, oldT hb, hc⟩, fun e => n1 (hb_app _ e), fun e => n2 (hb_app _ e)⟩
  · simp only [List.mem_toArray, List.mem_cons, List.not_mem_nil, or_false] at hop
    rcases hop with rfl | rfl
    · rw [hx.2]; trivial
    · rw [hy.2]; trivial
  · rw [List.length_append, List.length_cons, List.length_nil]
    rcases getElem?_append_cases hi with ⟨_, h1⟩ | ⟨_, h1⟩
    · have := h.gs i op h1; omega
    · simp only [List.mem_toArray, List.mem_cons, List.not_mem_nil, or_false] at h1
      rcases h1 with rfl | rfl
      · rw [hx.1]; omega
      · rw [hy.1]; omega
  · obtain ⟨b, hb, hl'⟩ := hl
    rw [List.length_append, List.length_cons, List.length_nil] at hz
    by_cases e : z = q0 + L.length
    · subst e
      refine appP (perm_old h.seen hb fun hlt => ?_)
      exfalso
      rcases hl' with h1 | ⟨h1, _⟩
      · rcases htag b hlt with h2 | ⟨h2, h3 | h3, _⟩
        · exact hnew b hlt (h2 ▸ h1)
        · rw [h1] at h3; cases h3
        · rw [h1] at h3; cases h3
      · omega
    · refine appP (perm_old h.seen hb fun hlt => ?_)
      rcases htag b hlt with h2 | ⟨h2, h3, _⟩
      · exact h.own z l (by omega) ⟨b, hb, by rwa [h2] at hl'⟩
      · rcases hl' with h4 | ⟨h4, h5, _⟩
        · rcases h3 with h3 | h3 <;> (rw [h4] at h3; cases h3)
        · subst h4; exact h.own 0 l (.inl rfl) ⟨b, hb, .inl h2⟩
  · by_cases e : j < L.length
    · rw [List.getElem?_append_left e] at hj
      obtain ⟨b, hb, hs, hl'⟩ := hl
      refine appW (permW_old h.seen hb fun hlt => ?_)
      rcases htag b hlt with h2 | ⟨_, _, h3⟩
      · exact h.rdS j S r hj l ⟨b, hb, hs, by rwa [h2] at hl'⟩
      · have := h3 j S r hj; omega
    · rw [List.getElem?_append_right (by omega)] at hj
      have hj0 : j = L.length := by
        rcases Nat.eq_zero_or_pos (j - L.length) with h1 | h1
        · omega
        · rw [List.getElem?_eq_none (by simp; omega)] at hj; cases hj
      subst hj0
      simp at hj
      obtain ⟨rfl, rfl⟩ := hj
      intro i a ha hl' hw
      obtain ⟨b, h1, h2, h3⟩ := hl
      exact fork_knows hx hy h0 hk (w0 l ⟨b, h1, .inl rfl, h3⟩ i a (oldT ha) hl' hw)
  · have hi' := (old hi ha).2
    have hlt := touch_low (h.seen op (mem_of_getElem? hi')) ha hb
    refine h.sync i op a b hi' ha hb ?_
    rcases htag b hlt with h1 | ⟨_, h1 | h1, _⟩
    · rw [← h1]; exact ht
    · rw [h1] at ht; rcases ht with ht | ht <;> cases ht
    · rw [h1] at ht; rcases ht with ht | ht <;> cases ht
  · by_cases e : j < L.length
    · rw [List.getElem?_append_left e] at hj
      have h1 := h.rel j S r hj
      have hrl : r < t.size := lt_of_act? h1.act
      refine ⟨by rw [act?_old hrl]; exact h1.act, by rw [g?_old hrl]; exact h1.g, (heard_old hrl).2 h1.heard, fun i op a hi hg hri ha hm => ?_⟩
      obtain ⟨hlt, hi'⟩ := old hi ha
      obtain ⟨x1, x2, x3⟩ := h1.after i op a hi' hg hri ha hm
      exact ⟨x1, x2, fun x => x3 ((heard_old hlt).1 x)⟩
    · rw [List.getElem?_append_right (by omega)] at hj
      rcases Nat.eq_zero_or_pos (j - L.length) with h1 | h1
      · rw [h1] at hj; simp at hj
      · rw [List.getElem?_eq_none (by simp; omega)] at hj; cases hj
  · rcases Array.mem_append.1 hop with h1 | h1
    · exact h.norel op h1
    · simp only [List.mem_toArray, List.mem_cons, List.not_mem_nil, or_false] at h1
      rcases h1 with rfl | rfl
      · rw [hx.2]; intro a e; cases e
      · rw [hy.2]; intro a e; cases e

/-- What nobody has touched turns to synchronisation's. -/
theorem TI.retag (h : TI Old Wg q0 n tag L t) (htag : ∀ b, b < n → tag' b = tag b ∨ (tag b = .fresh ∧ tag' b = .sync)) : TI Old Wg q0 n tag' L t := by
  refine ⟨h.clean, h.seen, h.gs, fun y l hy hl => ?_, fun l hl => ?_, fun j S r hj l hl => ?_, fun i op a b hi ha hb ht => ?_, h.known, h.rel, h.norel, h.over⟩
  · obtain ⟨b, hb, hl⟩ := hl
    refine perm_old h.seen hb fun hlt => ?_
    rcases htag b hlt with e | ⟨_, e⟩
    · exact h.own y l hy ⟨b, hb, by rwa [e] at hl⟩
    · rcases hl with h4 | ⟨_, h4, _⟩ <;> (rw [e] at h4; cases h4)
  · obtain ⟨b, hb, hs, hl⟩ := hl
    refine permW_old h.seen hb fun hlt => ?_
    rcases htag b hlt with e | ⟨_, e⟩
    · exact h.rd0 l ⟨b, hb, hs, by rwa [e] at hl⟩
    · rcases hl with h4 | ⟨h4, _⟩ <;> (rw [e] at h4; cases h4)
  · obtain ⟨b, hb, hs, hl⟩ := hl
    refine permW_old h.seen hb fun hlt => ?_
    rcases htag b hlt with e | ⟨_, e⟩
    · exact h.rdS j S r hj l ⟨b, hb, hs, by rwa [e] at hl⟩
    · rcases hl with h4 | ⟨h4, _⟩ <;> (rw [e] at h4; cases h4)
  · refine h.sync i op a b hi ha hb ?_
    rcases htag b (touch_low (h.seen op (mem_of_getElem? hi)) ha hb) with e | ⟨e, _⟩
    · rw [← e]; exact ht
    · exact .inr e

/-- The group's block is named anew. -/
theorem TI.start {Wg' : Nat} (h : TI Old Wg q0 n tag [] t) : TI Old Wg' q0 n tag [] t :=
  ⟨h.clean, h.seen, h.gs, h.own, h.rd0, h.rdS, h.sync, h.known, fun j S r hj => (by simp at hj), h.norel, h.over⟩

/-- THE PHASE ENDS: all senders have released; main says 'acquire', hearing. -/
theorem TI.finish (h : TI Old Wg q0 n tag L t) (hq : 0 < q0) (hall : ∀ (j S : Nat) (r : Option Nat), L[j]? = some (S, r) → ∃ r', r = some r') (h0 : Deaf t 0 = 0) (hW : Wg < n) (hWt : tag Wg = .sync)
    (hold : ∀ l, Old l → ∃ b, blk l = some b ∧ b < n ∧ tag b = .sync) (htag : ∀ b, b < n → (tag b = .sync ∧ tag' b = .sync) ∨ (tag b ≠ .sync ∧ tag' b = .mine 0)) (fn : FuncId) (pos : String) :
    TI (fun l => Old l ∨ blk l = some Wg) Wg (q0 + L.length) n tag' [] (t ++ MemOp.ofEvents 0 fn pos #[Go.ConcR.mk (.acquire (stA Wg))]) := by
  have e1 : MemOp.ofEvents 0 fn pos #[Go.ConcR.mk (.acquire (stA Wg))] = #[{ g := 0, fn, pos, act := .mark (.acquire (stA Wg)) }] := by rw [ofEvents_eq]; simp [Go.ConcR.mk, MemAct.ofEvent]
  rw [e1]
  have hy : (t ++ #[({ g := 0, fn, pos, act := .mark (.acquire (stA Wg)) } : MemOp)])[t.size]? = some { g := 0, fn, pos, act := .mark (.acquire (stA Wg)) } := by simp
  have h2 := h.quiet (u := #[{ g := 0, fn, pos, act := .mark (.acquire (stA Wg)) }]) (fun op hop => by simp at hop; subst hop; simp; omega) (fun op hop => by simp at hop; subst hop; rfl) (fun op hop => by simp at hop; subst hop; exact hW) (fun op hop => by simp at hop; subst hop; intro a e; cases e)
  generalize ht' : t ++ #[({ g := 0, fn, pos, act := .mark (.acquire (stA Wg)) } : MemOp)] = t' at *
  have hh0 : t'.heard t.size := by
    subst ht'
    exact ⟨0, by simp [Trace.g?], by rw [deaf_old (Nat.le_refl _)]; exact h0⟩
  have hd0 : Deaf t' 0 = 0 := by
    subst ht'
    rw [Deaf_push]; exact h0
  have hr : ∀ (j S r : Nat), L[j]? = some (S, some r) → HappensBefore t' r t.size := by
    intro j S r hj
    have h3 := h2.rel j S r hj
    have h4 := h.rel j S r hj
    exact .single (.inr ⟨.marked (lt_of_act? h4.act) (.inr h3.act) (by rw [act?_of hy]) (fun k _ _ e => by
      obtain ⟨op, hop, hoa⟩ := Option.map_eq_some_iff.1 e
      exact h2.norel op (mem_of_getElem? hop) _ hoa), h3.heard, hh0⟩)
  -- what a sender touched
  have sent : ∀ (i : Nat) (op : MemOp) (a : Touch), t'[i]? = some op → q0 ≤ op.g → op.act.touch? = some a → a.loc.isMemory = true →
      HappensBefore t' i t.size ∨ (a.kind = .atomic ∧ blk a.loc = some Wg ∧ ¬ t'.heard i) := by
    intro i op a hi hg ha hm
    have hgl := h2.gs i op hi
    obtain ⟨⟨S, r⟩, hj⟩ : ∃ p, L[op.g - q0]? = some p := ⟨_, List.getElem?_eq_getElem (by omega)⟩
    obtain ⟨r', rfl⟩ := hall _ _ _ hj
    have h3 := h2.rel _ _ _ hj
    rw [show q0 + (op.g - q0) = op.g by omega] at h3
    rcases Nat.lt_or_ge r' i with hlt | hge
    · exact .inr (h3.after i op a hi rfl hlt ha hm)
    · left
      rcases Nat.lt_or_ge i r' with hlt | hge'
      · exact .trans (.single (.inl ⟨hlt, op.g, by simp [Trace.g?, hi], h3.g⟩)) (hr _ _ _ hj)
      · obtain rfl : i = r' := by omega
        exact hr _ _ _ hj
  have known : ∀ (i : Nat) (op : MemOp) (a : Touch), t'[i]? = some op → op.act.touch? = some a → a.loc.isMemory = true → Knows t' 0 i ∨ ((Old a.loc ∨ blk a.loc = some Wg) ∧ a.kind = .atomic) := by
    intro i op a hop hoa hm
    rcases Nat.lt_or_ge op.g q0 with hlt | hge
    · exact (h2.known i op a hop hlt hoa hm).imp id (fun ⟨x, y⟩ => ⟨.inl x, y⟩)
    · rcases sent i op a hop hge hoa hm with h3 | ⟨h3, h4, _⟩
      · exact .inl ⟨t.size, _, hy, rfl, .inr h3⟩
      · exact .inr ⟨.inr h4, h3⟩
  have oldW : ∀ l, (Old l ∨ blk l = some Wg) → ∃ b, blk l = some b ∧ b < n ∧ tag b = .sync := fun l hl => hl.elim (hold l) (fun h => ⟨Wg, h, hW, hWt⟩)
  refine ⟨h2.clean, h2.seen, fun i op hi => by simpa using h2.gs i op hi, fun y l hy' hl => ?_, fun l hl => ?_, fun j S r hj => (by simp at hj), fun i op a b hi ha hb ht => ?_, fun i op a hi _ ha hm => known i op a hi ha hm, fun j S r hj => (by simp at hj), h2.norel, fun i g hg hgq hne hc => ?_⟩
  · obtain rfl : y = 0 := by simp at hy'; omega
    obtain ⟨b, hb, hl'⟩ := hl
    refine perm_old h2.seen hb fun hlt => fun i a ha hloc => ?_
    obtain ⟨op, hop, hoa⟩ := touch_of ha
    rcases known i op a hop hoa (mem_of_touch hoa ⟨b, by rw [hloc]; exact hb⟩) with h1 | ⟨h1, _⟩
    · exact h1
    · exfalso
      obtain ⟨b', hb', _, ht⟩ := oldW _ h1
      rw [hloc, hb] at hb'; cases hb'
      rcases htag b hlt with ⟨_, h3⟩ | ⟨h3, _⟩
      · rcases hl' with h4 | ⟨_, h4, _⟩ <;> (rw [h3] at h4; cases h4)
      · exact h3 ht
  · obtain ⟨b, hb, _, hl'⟩ := hl
    refine permW_old h2.seen hb fun hlt => ?_
    exfalso
    rcases htag b hlt with ⟨_, h3⟩ | ⟨_, h3⟩ <;> (rcases hl' with h4 | ⟨h4, _⟩ <;> (rw [h3] at h4; cases h4))
  · have hlt := touch_low (h2.seen op (mem_of_getElem? hi)) ha hb
    refine h2.sync i op a b hi ha hb ?_
    rcases htag b hlt with ⟨h3, _⟩ | ⟨_, h3⟩
    · exact .inl h3
    · rw [h3] at ht; rcases ht with ht | ht <;> cases ht
  · obtain ⟨a, ha, hm, hk⟩ := hc
    obtain ⟨op, hop, hoa⟩ := touch_of ha
    have hgo : op.g = g := by simpa [Trace.g?, hop] using hg
    rcases Nat.lt_or_ge op.g q0 with hlt | hge
    · exact h2.over i g hg (by omega) hne ⟨a, ha, hm, hk⟩
    · rcases sent i op a hop hge hoa hm with h3 | ⟨h3, _, h5⟩
      · exact ⟨t.size, by simp [Trace.g?, hy], h3⟩
      · rcases hk with hk | hk
        · exact absurd h3 hk
        · exact absurd hk h5
end
end Go.Proofs.Ytdajdembeacefaa.M

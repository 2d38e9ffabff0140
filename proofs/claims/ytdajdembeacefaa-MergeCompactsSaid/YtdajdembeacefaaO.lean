/-
  THE CALCULUS, 4: operations that write and make ('wpS': a piece of the model's own text, carried out by thread x on what is its own).
-/
import Derived.Test.YtdajdembeacefaaC
import Derived.Below
set_option linter.unusedSimpArgs false
set_option linter.unusedVariables false
namespace Go.Proofs.Ytdajdembeacefaa.M
open Go.Conc

section
variable {x : Th} {O O1 O2 : Gh} {w w1 w2 : World}

theorem Writes.lt_of {b : Nat} (h : Writes x O b) (e : O1.tag b = O.tag b) : Writes x O1 b := h.of_tag e
/-- Two steps, one behind the other (what they list aside). -/
theorem Moves.trans (h : Moves x O w O1 w1 #[]) (k : Moves x O1 w1 O2 w2 #[]) : Moves x O w O2 w2 #[] := by
  have up : ∀ {b}, b < w.heap.size → b < w1.heap.size := fun hb => Nat.lt_of_lt_of_le hb h.size
  refine ⟨Nat.le_trans h.size k.size, k.tape.trans h.tape, k.os.trans h.os, k.output.trans h.output, ?_, fun b hb => (k.tags b (up hb)).trans (h.tags b hb), fun b h1 h2 => ?_, fun b hb hn => ?_, fun b hb hf => ?_, by simp⟩
  · have h1 := h.deaf; have h2 := k.deaf
    rw [h2, h1]; rfl
  · by_cases hlt : b < w1.heap.size
    · rw [k.tags b hlt]; exact h.new b h1 hlt
    · exact k.new b (by omega) h2
  · rw [k.block b (up hb) fun hw => hn (hw.of_tag (h.tags b hb).symm), h.block b hb hn]
  · rw [k.cell0 b (up hb) ((h.tags b hb).trans hf), h.cell0 b hb hf]
theorem Moves.with {es : Array Event} (h : Moves x O w O1 w1 #[]) (he : ∀ e ∈ es, Ev x O1 w1.heap.size e) (hd : ∀ e ∈ es, e.loc ≠ .mark .disable ∧ e.loc ≠ .mark .enable) : Moves x O w O1 w1 es :=
  ⟨h.size, h.tape, h.os, h.output, h.deaf.trans (deaf_keep hd).symm, h.tags, h.new, h.block, h.cell0, he⟩

/-- What is listed stays in order while the thread goes on. -/
theorem Ev.mono {e : Event} {n n' : Nat} (h : Ev x O n e) (hn : n ≤ n') (ht : ∀ b, b < n → O1.tag b = O.tag b) : Ev x O1 n' e := by
  rcases h with ⟨a, rfl, hb, h⟩ | ⟨a, rfl, hb, h⟩ | ⟨r, h, hb, h2⟩ | h | h | h | ⟨a, h, h0, hs, hb⟩
  · exact .inl ⟨a, rfl, Nat.lt_of_lt_of_le hb hn, by rw [ht _ hb]; exact h⟩
  · exact .inr (.inl ⟨a, rfl, Nat.lt_of_lt_of_le hb hn, by unfold Sees at *; rw [ht _ hb]; exact h⟩)
  · exact .inr (.inr (.inl ⟨r, h, Nat.lt_of_lt_of_le hb hn, by rw [ht _ hb]; exact h2⟩))
  · exact .inr (.inr (.inr (.inl h)))
  · exact .inr (.inr (.inr (.inr (.inl h))))
  · exact .inr (.inr (.inr (.inr (.inr (.inl h)))))
  · exact .inr (.inr (.inr (.inr (.inr (.inr ⟨a, h, h0, by rw [ht _ hb]; exact hs, Nat.lt_of_lt_of_le hb hn⟩)))))
end

/-- A value of one cell. -/
def one? : Value → Bool
  | .agg _ | .tuple _ => false
  | _ => true
/-- The thread may write this cell. -/
def MayW (x : Th) (O : Gh) (a : Addr) : Prop := O.tag a.block = .mine x.id ∨ (O.tag a.block = .front ∧ x.id = 0 ∧ a.off ≠ 0 ∧ a.spot = none)

def wpS {α : Type} (P : Program) (x : Th) (K : α → Gh → World → Prop) : Sem α → Gh → World → Prop
  | .pure a, O, w => K a O w
  | .load .plain a k, O, w => ∃ v, ldOf x O w a = some v ∧ wpS P x K (k v) O w
  | .store .plain a v k, O, w => (w.cell? a).isSome = true ∧ w.frozen? a = false ∧ one? v = true ∧ MayW x O a ∧ wpS P x K k O (w.setCell a v)
  | .new o k, O, w => wpS P x K (k w.heap.size) (O.with w.heap.size (.mine x.id)) (grow w o)
  | .shape r k, O, w => wpS P x K (k (w.shape? r)) O w
  | .frozen a k, O, w => wpS P x K (k (w.frozen? a)) O w
  | .getObj r k, O, w => O.tag r = .mine x.id ∧ ∃ o, w.heap[r]? = some o ∧ (match o with | .cells .. | .chan .. => False | _ => True) ∧ wpS P x K (k o) O w
  | .setObj r o k, O, w => O.tag r = .mine x.id ∧ (match o with | .chan .. => False | _ => True) ∧ (∃ o', w.heap[r]? = some o' ∧ (match o' with | .cells .. => False | _ => True)) ∧ wpS P x K k O { w with heap := w.heap.setIfInBounds r o }
  | .choose q k, O, w => (q.forced = true → wpS P x K (k 0) O w) ∧ (q.forced = false → ∀ t, wpS P x K (k (q.cut t)) O { w with drawn := w.drawn + 1 })
  | .program k, O, w => wpS P x K (k P) O w
  | .mark .noRoom k, O, w => wpS P x K k O w
  | _, _, _ => False

section
variable {P : Program} {x : Th} {O : Gh} {w : World} {α β : Type}

theorem wpS_bind (K : β → Gh → World → Prop) (s : Sem α) (f : α → Sem β) : ∀ (O : Gh) (w : World), wpS P x K (s >>= f) O w ↔ wpS P x (fun a => wpS P x K (f a)) s O w := by
  show ∀ O w, wpS P x K (s.bind f) O w ↔ _
  induction s with
  | load m a k ih =>
    intro O w
    cases m
    · simp only [Sem.bind, wpS, ih]
    · simp only [Sem.bind, wpS]
  | store m a v k ih =>
    intro O w
    cases m
    · simp only [Sem.bind, wpS, ih]
    · simp only [Sem.bind, wpS]
  | mark m k ih => intro O w; cases m <;> simp only [Sem.bind, wpS, ih]
  | pure a => intro O w; rfl
  | new o k ih => intro O w; simp only [Sem.bind, wpS, ih]
  | shape r k ih => intro O w; simp only [Sem.bind, wpS, ih]
  | frozen r k ih => intro O w; simp only [Sem.bind, wpS, ih]
  | getObj r k ih => intro O w; simp only [Sem.bind, wpS, ih]
  | setObj r o k ih => intro O w; simp only [Sem.bind, wpS, ih]
  | choose q k ih => intro O w; simp only [Sem.bind, wpS, ih]
  | program k ih => intro O w; simp only [Sem.bind, wpS, ih]
  | _ => intro O w; simp only [Sem.bind, wpS]

theorem wpS_mono {K K' : α → Gh → World → Prop} (h : ∀ a O w, K a O w → K' a O w) (s : Sem α) : ∀ (O : Gh) (w : World), wpS P x K s O w → wpS P x K' s O w := by
  induction s with
  | load m a k ih => intro O w; cases m; · exact fun ⟨v, h1, h2⟩ => ⟨v, h1, ih v O w h2⟩
                     · exact fun h => h.elim
  | store m a v k ih => intro O w; cases m; · exact fun ⟨h1, h2, h3, h4, h5⟩ => ⟨h1, h2, h3, h4, ih _ _ h5⟩
                        · exact fun h => h.elim
  | mark m k ih => intro O w; cases m <;> first | exact fun h => h.elim | exact ih O w
  | pure a => exact fun O w => h a O w
  | new o k ih => intro O w; exact ih _ _ _
  | shape r k ih => intro O w; exact ih _ _ _
  | frozen r k ih => intro O w; exact ih _ _ _
  | getObj r k ih => intro O w; exact fun ⟨h1, o, h2, h3, h4⟩ => ⟨h1, o, h2, h3, ih _ _ _ h4⟩
  | setObj r o k ih => intro O w; exact fun ⟨h1, h2, h3, h4⟩ => ⟨h1, h2, h3, ih _ _ h4⟩
  | choose q k ih => intro O w; exact fun ⟨h1, h2⟩ => ⟨fun e => ih _ _ _ (h1 e), fun e t => ih _ _ _ (h2 e t)⟩
  | program k ih => intro O w; exact ih _ _ _
  | _ => intro O w; exact fun h => h.elim

theorem cell_setCell {w : World} {a : Addr} (v : Value) (b : Nat) (hb : b ≠ a.block) : (w.setCell a v).heap[b]? = w.heap[b]? := Go.RowKit.Below.heap_setCell w a v b hb
theorem cell0_setCell {w : World} {b o : Nat} (v : Value) (ho : o ≠ 0) : (w.setCell ⟨b, o, none⟩ v).cell? ⟨b, 0, none⟩ = w.cell? ⟨b, 0, none⟩ := by
  simp only [World.cell?, World.setCell, Array.getElem?_modify, if_true]
  cases hb : w.heap[b]? with
  | none => rfl
  | some ob => cases ob <;> simp [Array.getElem?_setIfInBounds_ne ho]

theorem Moves.setCell {a : Addr} (v : Value) (h : MayW x O a) : Moves x O w O (w.setCell a v) #[] := by
  have hsz : (w.setCell a v).heap.size = w.heap.size := by simp [World.setCell]
  refine ⟨by rw [hsz]; exact Nat.le_refl _, by simp [World.setCell], by simp [World.setCell], by simp [World.setCell], rfl, fun _ _ => rfl, fun b h1 h2 => by rw [hsz] at h2; omega, fun b hb hn => ?_, fun b hb hf => ?_, by simp⟩
  · refine cell_setCell v b fun e => hn ?_
    subst e
    exact h.imp id fun h => ⟨h.1, h.2.1⟩
  · by_cases e : b = a.block
    · subst e
      rcases h with h | ⟨_, _, h0, hs⟩
      · rw [h] at hf; cases hf
      · obtain ⟨b, o, s⟩ := a
        simp only at hs h0; subst hs
        exact cell0_setCell v h0
    · exact cell?_congr (cell_setCell v b e) 0 none
theorem Moves.setObj {r : Nat} (o : Obj) (h : O.tag r = .mine x.id) : Moves x O w O { w with heap := w.heap.setIfInBounds r o } #[] := by
  have keep : ∀ b, b ≠ r → (w.heap.setIfInBounds r o)[b]? = w.heap[b]? := fun b hb => by rw [Array.getElem?_setIfInBounds_ne (Ne.symm hb)]
  refine ⟨by simp, rfl, rfl, rfl, rfl, fun _ _ => rfl, fun b h1 h2 => by simp at h2; omega, fun b hb hn => keep b fun e => hn (.inl (e ▸ h)), fun b hb hf => cell?_congr (keep b fun e => ?_) 0 none, by simp⟩
  subst e; rw [h] at hf; cases hf
theorem Moves.drawn : Moves x O w O { w with drawn := w.drawn + 1 } #[] :=
  ⟨Nat.le_refl _, rfl, rfl, rfl, rfl, fun _ _ => rfl, fun b h1 h2 => absurd h2 (Nat.not_lt.2 h1), fun _ _ _ => rfl, fun _ _ _ => rfl, by simp⟩

/-- What is listed lies within what the thread may list. -/
def EvN (x : Th) (O : Gh) (n : Nat) (e : Event) : Prop := Ev x O n e ∧ e.loc ≠ .mark .disable ∧ e.loc ≠ .mark .enable

theorem wpS_sound {K : α → Gh → World → Prop} (s : Sem α) : ∀ (O : Gh) (w : World), wpS P x K s O w →
    ∃ a w' O', s.run P w = .ok a w' ∧ Moves x O w O' w' #[] ∧ K a O' w' ∧ ∀ es, ∀ e ∈ s.events P w es, e ∈ es ∨ EvN x O' w'.heap.size e := by
  have later : ∀ {O O1 O2 : Gh} {w w1 w2 : World} {e : Event}, EvN x O1 w1.heap.size e → Moves x O1 w1 O2 w2 #[] → EvN x O2 w2.heap.size e := fun h m => ⟨h.1.mono m.size m.tags, h.2⟩
  induction s with
  | pure a => intro O w h; exact ⟨a, w, O, rfl, Moves.idle w, h, fun es e he => .inl he⟩
  | load m a k ih =>
    intro O w h
    cases m with
    | atomic => exact h.elim
    | plain =>
      obtain ⟨v, hv, h⟩ := h
      have hc := ldOf_cell hv
      obtain ⟨b, w', O', h1, h2, h3, h4⟩ := ih v O w h
      refine ⟨b, w', O', by simp only [Sem.run, hc]; exact h1, h2, h3, fun es e he => ?_⟩
      have he' : e ∈ (k v).events P w (es.push ⟨.cell a, false, false⟩) := by
        simpa only [Sem.events, Sem.runT, hc, show (Mode.plain == Mode.atomic) = false from rfl] using he
      rcases h4 _ e he' with h5 | h5
      · rcases Array.mem_push.1 h5 with h6 | h6
        · exact .inl h6
        · refine .inr (later (O := O) (w := w) (?_ : EvN x O w.heap.size e) h2)
          exact ⟨evR_ev ⟨a, v, h6, hv⟩, by subst h6; simp⟩
      · exact .inr h5
  | store m a v k ih =>
    intro O w h
    cases m with
    | atomic => exact h.elim
    | plain =>
      obtain ⟨hc, hf, ho, hm, h⟩ := h
      obtain ⟨c, hc⟩ := Option.isSome_iff_exists.1 hc
      obtain ⟨b, w', O', h1, h2, h3, h4⟩ := ih O _ h
      have hmv := Moves.setCell (w := w) v hm
      have hrun : (Sem.store .plain a v k).run P w = k.run P (w.setCell a v) := by
        cases v <;> first | (cases ho; done) | (simp only [Sem.run, hc, hf]; rfl)
      have hev : ∀ es, (Sem.store .plain a v k).events P w es = k.events P (w.setCell a v) (es.push ⟨.cell a, true, false⟩) := by
        intro es
        cases v <;> first | (cases ho; done) | (simp only [Sem.events, Sem.runT, hc, hf]; rfl)
      refine ⟨b, w', O', hrun.trans h1, hmv.trans h2, h3, fun es e he => ?_⟩
      rw [hev] at he
      rcases h4 _ e he with h5 | h5
      · rcases Array.mem_push.1 h5 with h6 | h6
        · exact .inl h6
        · refine .inr (later (O := O) (w := w) (?_ : EvN x O (w.setCell a v).heap.size e) h2)
          refine ⟨.inl ⟨a, h6, ?_, hm.imp id fun h => ⟨h.1, h.2.1, h.2.2.1⟩⟩, by subst h6; simp⟩
          simpa [World.setCell] using cell?_lt hc
      · exact .inr h5
  | new o k ih =>
    intro O w h
    obtain ⟨b, w', O', h1, h2, h3, h4⟩ := ih _ _ _ h
    exact ⟨b, w', O', h1, (Moves.grow (.inl rfl)).trans h2, h3, fun es e he => h4 es e he⟩
  | shape r k ih =>
    intro O w h
    obtain ⟨b, w', O', h1, h2, h3, h4⟩ := ih _ _ _ h
    exact ⟨b, w', O', h1, h2, h3, fun es e he => h4 es e he⟩
  | frozen r k ih =>
    intro O w h
    obtain ⟨b, w', O', h1, h2, h3, h4⟩ := ih _ _ _ h
    exact ⟨b, w', O', h1, h2, h3, fun es e he => h4 es e he⟩
  | getObj r k ih =>
    intro O w h
    obtain ⟨ht, o, ho, hk, h⟩ := h
    have hlt := (Array.getElem?_eq_some_iff.1 ho).1
    obtain ⟨b, w', O', h1, h2, h3, h4⟩ := ih _ _ _ h
    have hrun : (Sem.getObj r k).run P w = (k o).run P w := by
      simp only [Sem.run, ho]
      cases o <;> first | (cases hk; done) | rfl
    have hev : ∀ es, (Sem.getObj r k).events P w es = (k o).events P w (es.push ⟨.obj r, false, false⟩) := by
      intro es
      simp only [Sem.events, Sem.runT, ho]
      cases o <;> first | (cases hk; done) | rfl
    refine ⟨b, w', O', hrun.trans h1, h2, h3, fun es e he => ?_⟩
    rw [hev] at he
    rcases h4 _ e he with h5 | h5
    · rcases Array.mem_push.1 h5 with h6 | h6
      · exact .inl h6
      · refine .inr (later (O := O) (w := w) (?_ : EvN x O w.heap.size e) h2)
        exact ⟨.inr (.inr (.inl ⟨r, .inr h6, hlt, ht⟩)), by subst h6; simp⟩
    · exact .inr h5
  | setObj r o k ih =>
    intro O w h
    obtain ⟨ht, hk, ⟨o', ho, hk'⟩, h⟩ := h
    have hlt := (Array.getElem?_eq_some_iff.1 ho).1
    obtain ⟨b, w', O', h1, h2, h3, h4⟩ := ih _ _ h
    have hrun : (Sem.setObj r o k).run P w = k.run P { w with heap := w.heap.setIfInBounds r o } := by
      simp only [Sem.run, ho]
      cases o' <;> first | (cases hk'; done) | rfl
    have hev : ∀ es, (Sem.setObj r o k).events P w es = k.events P { w with heap := w.heap.setIfInBounds r o } (es.push ⟨.obj r, true, false⟩) := by
      intro es
      simp only [Sem.events, Sem.runT, ho]
      cases o' <;> first | (cases hk'; done) | (cases o <;> first | (cases hk; done) | rfl)
    refine ⟨b, w', O', hrun.trans h1, (Moves.setObj o ht).trans h2, h3, fun es e he => ?_⟩
    rw [hev] at he
    rcases h4 _ e he with h5 | h5
    · rcases Array.mem_push.1 h5 with h6 | h6
      · exact .inl h6
      · refine .inr (later (O := O) (w := w) (?_ : EvN x O ({ w with heap := w.heap.setIfInBounds r o } : World).heap.size e) h2)
        exact ⟨.inr (.inr (.inl ⟨r, .inl h6, by simpa using hlt, ht⟩)), by subst h6; simp⟩
    · exact .inr h5
  | choose q k ih =>
    intro O w h
    obtain ⟨hf, hn⟩ := h
    cases hq : q.forced with
    | true =>
      obtain ⟨b, w', O', h1, h2, h3, h4⟩ := ih _ _ _ (hf hq)
      exact ⟨b, w', O', by simp only [Sem.run, hq, if_true]; exact h1, h2, h3, fun es e he => h4 es e (by simpa only [Sem.events, Sem.runT, hq, if_true] using he)⟩
    | false =>
      obtain ⟨b, w', O', h1, h2, h3, h4⟩ := ih _ _ _ (hn hq (w.tape w.drawn q))
      exact ⟨b, w', O', by simp only [Sem.run, hq, Bool.false_eq_true, if_false]; exact h1, Moves.drawn.trans h2, h3, fun es e he => h4 es e (by simpa only [Sem.events, Sem.runT, hq, Bool.false_eq_true, if_false] using he)⟩
  | program k ih =>
    intro O w h
    obtain ⟨b, w', O', h1, h2, h3, h4⟩ := ih _ _ _ h
    exact ⟨b, w', O', h1, h2, h3, fun es e he => h4 es e he⟩
  | mark m k ih =>
    intro O w h
    cases m with
    | noRoom =>
      obtain ⟨b, w', O', h1, h2, h3, h4⟩ := ih _ _ h
      refine ⟨b, w', O', h1, h2, h3, fun es e he => ?_⟩
      rcases h4 _ e (show e ∈ k.events P w (es.push ⟨.mark .noRoom, false, true⟩) from he) with h5 | h5
      · rcases Array.mem_push.1 h5 with h6 | h6
        · exact .inl h6
        · exact .inr ⟨.inr (.inr (.inr (.inr (.inr (.inl h6))))), by subst h6; simp⟩
      · exact .inr h5
    | _ => exact h.elim
  | _ => intro O w h; exact h.elim

theorem wpS_pure (K : α → Gh → World → Prop) (a : α) : wpS P x K (Pure.pure a : Sem α) O w ↔ K a O w := Iff.rfl
/-- What only reads. -/
theorem wpS_runL {K : α → Gh → World → Prop} (s : Sem α) : ∀ (a : α), runL P (ldOf x O w) s = some a → K a O w → wpS P x K s O w := by
  induction s with
  | pure b => intro a h hK; simp only [runL, Option.some.injEq] at h; subst h; exact hK
  | load m ad k ih =>
    intro a h hK
    cases m with
    | atomic => simp [runL] at h
    | plain =>
      simp only [runL] at h
      cases hv : ldOf x O w ad with
      | none => rw [hv] at h; cases h
      | some v => rw [hv] at h; exact ⟨v, hv, ih v a h hK⟩
  | program k ih => intro a h hK; exact ih P a h hK
  | _ => intro a h; simp [runL] at h
end

section
variable {P : Program} {x : Th} {St : Gh → Goroutine → World → Prop} {O : Gh} {w : World} {b : Frame} {n : Nat} {f : Nat → Value} {ds : List Deferred} {k : List Item} {cs : List Frame} {all os : List Oper} {i : Nat} {o : Oper}

/-- An operation by 'wpS'. -/
theorem t_wp (hk : b.kind ≠ .early) (hg : o.guard = none)
    (h : ∀ O1 w1, Rel x O w O1 w1 → wpS P x (fun r O' w' => match r with
      | .value v => InReg P x St O' w' b n (put f o.dst v) ds all k cs (i + 1) os
      | .skip => InReg P x St O' w' b n (put f o.dst undef) ds all k cs (i + 1) os
      | _ => False) (execOp (ev n f) o) O1 w1) : InReg P x St O w b n f ds all k cs i (o :: os) := by
  intro e
  obtain ⟨h1, h2⟩ := drop_get e
  rw [List.length_cons, List.range'_succ]
  refine .step (Tree P x St) rfl (fun O1 w1 r => ?_) (fun _ _ _ h => h)
  obtain ⟨a, w', O', hr, hm, hK, hev⟩ := wpS_sound _ _ _ (h O1 w1 r)
  rw [← eval_mkT n f ds] at hr hev
  have hw : Region.wanted o (yielded all.toArray (mkT n f)) = true := by unfold Region.wanted; rw [hg]
  have hmv : Moves x O1 w1 O' w' (listed P b.fn ⟨mkT n f, ds⟩ o w1) := by
    refine hm.with (fun e he => ?_) (fun e he => ?_)
    · rcases hev #[] e (mem_listed he) with h3 | h3
      · simp at h3
      · exact h3.1
    · rcases hev #[] e (mem_listed he) with h3 | h3
      · simp at h3
      · exact h3.2
  cases a with
  | value v =>
    have hst := stepG_value (main := x.id == 0) (b := b) (a := ⟨mkT n f, ds⟩) (k := k) (cs := cs) (rest := List.range' (i + 1) os.length) h1 hw hk hr
    rw [put_mkT] at hst
    exact ⟨_, w', _, O', hst, hmv, hK h2⟩
  | skip =>
    have hst := stepG_none (main := x.id == 0) (b := b) (a := ⟨mkT n f, ds⟩) (k := k) (cs := cs) (rest := List.range' (i + 1) os.length) h1 hw hk hr
    rw [put_mkT] at hst
    exact ⟨_, w', _, O', hst, hmv, hK h2⟩
  | _ => exact hK.elim
end
end Go.Proofs.Ytdajdembeacefaa.M

/-
  THE PHASE, 3: the steps of a sender and of an old leaver.
-/
import Derived.Test.YtdajdembeacefaaI
set_option linter.unusedSimpArgs false
set_option linter.unusedVariables false
namespace Go.Proofs.Ytdajdembeacefaa.M
open Go.Conc
open Go.ConcN (sumTo sumTo_upd upd_ne upd_same)
open Go.ConcR (KK wgBlock WgAt stA smA rd wr mk)

/-! ### the measure -/
abbrev Mu := Nat × Nat × Nat × List Rk × Rk
def Lt : Mu → Mu → Prop := Prod.Lex (· < ·) (Prod.Lex (· < ·) (Prod.Lex (· < ·) (Prod.Lex LStep Rk.lt)))
theorem Lt.wf : WellFounded Lt :=
  (Prod.lex Nat.lt_wfRel (Prod.lex Nat.lt_wfRel (Prod.lex Nat.lt_wfRel (Prod.lex ⟨LStep, LStep.wf⟩ ⟨Rk.lt, Rk.wf⟩)))).wf
def mu (q0 : Nat) (m : MSt) (SD : List Sd) (rm : Rk) (qo : Nat → Nat) : Mu :=
  (m.fu, (SD.map fun s => s.st.wt).sum + m.wt (al SD), sumTo q0 qo + (SD.map fun s => s.q).sum, SD.map fun s => s.rk, rm)

theorem sum_set (f : Sd → Nat) {l : List Sd} {j : Nat} {a b : Sd} (h : l[j]? = some a) : ((l.set j b).map f).sum + f a = (l.map f).sum + f b := by
  induction l generalizing j with
  | nil => simp at h
  | cons x l ih =>
    cases j with
    | zero => simp at h; subst h; simp; omega
    | succ j =>
      have := ih (j := j) (by simpa using h)
      simp at this ⊢; omega
theorem wt_near (m : MSt) (a b : Nat) : m.wt a ≤ m.wt b + 2 := by
  cases m <;> simp [MSt.wt]
  split <;> split <;> omega

section
variable {q0 : Nat} {m m' : MSt} {SD : List Sd} {rm rm' : Rk} {qo qo' : Nat → Nat} {j : Nat} {s s' : Sd}
theorem mu_fu (h : m'.fu < m.fu) (SD' : List Sd) : Lt (mu q0 m' SD' rm' qo') (mu q0 m SD rm qo) := Prod.Lex.left _ _ h
theorem mu_wt (hf : m'.fu = m.fu) (hw : ∀ n, m'.wt n = m.wt n) (hj : SD[j]? = some s) (h : s'.st.wt + 2 < s.st.wt ∨ (s'.st.wt < s.st.wt ∧ s'.st.al = s.st.al)) : Lt (mu q0 m' (SD.set j s') rm' qo') (mu q0 m SD rm qo) := by
  unfold mu Lt
  rw [hf, hw]
  refine Prod.Lex.right _ (Prod.Lex.left _ _ ?_)
  have h1 := sum_set (fun s => s.st.wt) (b := s') hj
  rcases h with h | ⟨h, ha⟩
  · have := wt_near m (al (SD.set j s')) (al SD)
    omega
  · have : al (SD.set j s') = al SD := by unfold al; exact congrArg List.sum (map_set_same _ hj ha)
    rw [this]; omega
theorem mu_q (hf : m'.fu = m.fu) (hw : ∀ n, m'.wt n = m.wt n) (hj : SD[j]? = some s) (hst : s'.st = s.st) (h : s'.q < s.q) : Lt (mu q0 m' (SD.set j s') rm' qo) (mu q0 m SD rm qo) := by
  unfold mu Lt
  have e1 : (SD.set j s').map (fun s => s.st.wt) = SD.map fun s => s.st.wt := map_set_same _ hj (by rw [hst])
  have e2 : al (SD.set j s') = al SD := by unfold al; exact congrArg List.sum (map_set_same _ hj (by rw [hst]))
  rw [hf, hw, e1, e2]
  refine Prod.Lex.right _ (Prod.Lex.right _ (Prod.Lex.left _ _ ?_))
  have h1 := sum_set (fun s => s.q) (b := s') hj
  omega
theorem mu_rk (hf : m'.fu = m.fu) (hw : ∀ n, m'.wt n = m.wt n) (hj : SD[j]? = some s) (hst : s'.st = s.st) (hq : s'.q = s.q) (h : Rk.lt s'.rk s.rk) : Lt (mu q0 m' (SD.set j s') rm' qo) (mu q0 m SD rm qo) := by
  unfold mu Lt
  have e1 : (SD.set j s').map (fun s => s.st.wt) = SD.map fun s => s.st.wt := map_set_same _ hj (by rw [hst])
  have e2 : al (SD.set j s') = al SD := by unfold al; exact congrArg List.sum (map_set_same _ hj (by rw [hst]))
  have e3 : (SD.set j s').map (fun s => s.q) = SD.map fun s => s.q := map_set_same _ hj hq
  rw [hf, hw, e1, e2, e3]
  refine Prod.Lex.right _ (Prod.Lex.right _ (Prod.Lex.right _ (Prod.Lex.left _ _ ?_)))
  rw [List.map_set]
  exact LStep.set (by rw [List.getElem?_map, hj]; rfl) h
theorem mu_leave {i k : Nat} (hf : m'.fu = m.fu) (hw : ∀ n, m'.wt n = m.wt n) (hi : i < q0) (h : qo i = k + 1) : Lt (mu q0 m' SD rm' (Go.ConcN.upd qo i k)) (mu q0 m SD rm qo) := by
  unfold mu Lt
  rw [hf, hw]
  refine Prod.Lex.right _ (Prod.Lex.right _ (Prod.Lex.left _ _ ?_))
  have h1 : sumTo q0 (Go.ConcN.upd qo i k) + (k + 1) = sumTo q0 qo + k := by
    have := sumTo_upd qo k id hi
    simpa [h] using this
  omega
theorem mu_main (hf : m'.fu = m.fu) (h : m'.wt (al SD) < m.wt (al SD) ∨ (m' = m ∧ Rk.lt rm' rm) ∨ (m'.wt (al SD) = m.wt (al SD) ∧ Rk.lt rm' rm)) : Lt (mu q0 m' SD rm' qo) (mu q0 m SD rm qo) := by
  unfold mu Lt
  rw [hf]
  refine Prod.Lex.right _ ?_
  have key : m'.wt (al SD) = m.wt (al SD) → Rk.lt rm' rm → Prod.Lex (· < ·) (Prod.Lex (· < ·) (Prod.Lex LStep Rk.lt)) ((SD.map fun s => s.st.wt).sum + m'.wt (al SD), sumTo q0 qo + (SD.map fun s => s.q).sum, SD.map fun s => s.rk, rm') ((SD.map fun s => s.st.wt).sum + m.wt (al SD), sumTo q0 qo + (SD.map fun s => s.q).sum, SD.map fun s => s.rk, rm) := by
    intro e hr
    rw [e]
    exact Prod.Lex.right _ (Prod.Lex.right _ (Prod.Lex.right _ hr))
  rcases h with h | ⟨rfl, h⟩ | ⟨e, h⟩
  · exact Prod.Lex.left _ _ (by omega)
  · exact key rfl h
  · exact key e h
end

/-! ### the trace of an act on a block of synchronisation -/
theorem adds_sync {tag : Nat → Tag} {n y S : Nat} {es : Array Event} (h : ∀ e ∈ es, e.mute = true ∨ (∃ a wr, e = ⟨.cell a, wr, true⟩ ∧ a.block < n ∧ tag a.block = .sync) ∨ (∃ r wr, e = ⟨.obj r, wr, true⟩ ∧ r < n ∧ tag r = .sync))
    (fn : FuncId) (pos : String) : Adds tag n n y S (MemOp.ofEvents y fn pos es) := by
  refine ⟨fun op hop => ?_, fun op hop => ?_, fun a op hop => ?_, fun op hop a ha => ?_⟩ <;> obtain ⟨e, he, rfl⟩ := Go.Conc.mem_ofEvents hop
  · rfl
  · rcases h e he with h1 | ⟨ad, wr, rfl, hb, _⟩ | ⟨r, wr, rfl, hb, _⟩
    · exact low_mute h1 n
    · exact hb
    · cases wr <;> exact hb
  · rcases h e he with h1 | ⟨ad, wr, rfl, hb, _⟩ | ⟨r, wr, rfl, hb, _⟩
    · intro e2
      have := touch_mute h1
      simp only at e2
      obtain ⟨loc, wr, sy⟩ := e
      cases loc with
      | mark m => cases m <;> simp_all [Event.mute, MemAct.ofEvent]
      | obj c => cases wr <;> cases sy <;> simp_all [MemAct.ofEvent]
      | _ => simp_all [MemAct.ofEvent]
    · intro e2; cases e2
    · cases wr <;> (intro e2; cases e2)
  · rcases h e he with h1 | ⟨ad, wr, rfl, hb, ht⟩ | ⟨r, wr, rfl, hb, ht⟩
    · rw [touch_mute h1] at ha; cases ha
    · simp [MemAct.ofEvent, MemAct.touch?] at ha; subst ha
      exact .inr (.inr ⟨rfl, _, rfl, ht⟩)
    · cases wr
      · simp [MemAct.ofEvent, MemAct.touch?] at ha; subst ha
        exact .inr (.inr ⟨rfl, _, rfl, ht⟩)
      · simp [MemAct.ofEvent, MemAct.touch?] at ha

section
variable {P : Program} {ty : TypeId} {Wg e : Nat} {AnchW Fin : Gh → Goroutine → World → Prop} {Old : Loc → Prop} {q0 : Nat} {tag : Nat → Tag} {SD : List Sd} {m : MSt} {rm : Rk} {qo : Nat → Nat} {Sm : Nat}
  {gs : Array Goroutine} {w : World} {t : Trace} {sl : Option (Nat × Nat)}

variable (P ty Wg e AnchW Fin Old q0) in
/-- Goroutine i's step leads on, the measure falls. -/
def Nx (SD : List Sd) (m : MSt) (rm : Rk) (qo : Nat → Nat) (gs : Array Goroutine) (w : World) (t : Trace) (sl : Option (Nat × Nat)) (i : Nat) : Prop :=
  ∃ gs' w' u tag' SD' m' rm' qo' Sm', runT P (crowd gs w sl) i = (.next (crowd gs' w' sl), u) ∧ PInv P ty Wg e AnchW Fin Old q0 tag' SD' m' rm' qo' Sm' gs' w' (t ++ u) ∧ Lt (mu q0 m' SD' rm' qo') (mu q0 m SD rm qo)

theorem ofEvents_g {y : Nat} {fn : FuncId} {pos : String} {es : Array Event} : ∀ op ∈ MemOp.ofEvents y fn pos es, op.g = y := fun op hop => by obtain ⟨e, _, rfl⟩ := Go.Conc.mem_ofEvents hop; rfl

theorem al_set {j : Nat} {s s' : Sd} (hj : SD[j]? = some s) : al (SD.set j s') + s.st.al = al SD + s'.st.al := sum_set (fun s => s.st.al) hj
theorem al_eq {j : Nat} {s s' : Sd} (hj : SD[j]? = some s) (h : s'.st.al = s.st.al) : al (SD.set j s') = al SD := by have := al_set (s' := s') hj; omega

theorem WgOK.keep {w' : World} {j : Nat} {s s' : Sd} (h : WgOK ty Wg m SD w) (hj : SD[j]? = some s) (hst : s'.st = s.st ∨ (s.st.al = 1 ∧ s'.st.al = 1)) (hb : w'.heap[Wg]? = w.heap[Wg]?) : WgOK ty Wg m (SD.set j s') w' := by
  have eal : al (SD.set j s') = al SD := al_eq hj (hst.elim (fun e => by rw [e]) fun e => e.2.trans e.1.symm)
  have pl : ∀ {st : Stage}, st.al = 1 → st.plain ∧ st ≠ .gone := by intro st h; cases st <;> simp_all [Stage.al, Stage.plain]
  have hlt := (List.getElem?_eq_some_iff.1 hj).1
  have mem' : ∀ (Q : Stage → Prop), (s'.st = s.st ∨ Q s'.st) → (∀ s2 ∈ SD, Q s2.st) → ∀ s2 ∈ SD.set j s', Q s2.st := by
    intro Q hQ hall s2 h2
    obtain ⟨k, hk⟩ := List.getElem?_of_mem h2
    rcases get_set hj hk with ⟨rfl, rfl⟩ | ⟨_, h3⟩
    · rcases hQ with h | h
      · rw [h]; exact hall s (List.mem_of_getElem? hj)
      · exact h
    · exact hall s2 (List.mem_of_getElem? h3)
  have pl' : (∀ s2 ∈ SD, s2.st.plain) → ∀ s2 ∈ SD.set j s', s2.st.plain := mem' Stage.plain (hst.imp id fun e => (pl e.2).1)
  have go' : (∀ s2 ∈ SD, s2.st = .gone) → ∀ s2 ∈ SD.set j s', s2.st = .gone := fun hall => by
    rcases hst with h | h
    · exact mem' (· = .gone) (.inl h) hall
    · exact absurd (hall s (List.mem_of_getElem? hj)) (pl h.1).2
  unfold WgOK at h ⊢
  cases m with
  | w3 b =>
    simp only at h ⊢
    rcases h with ⟨h1, h2, h3⟩ | ⟨k, s2, h1, h2, h3⟩ | ⟨h1, h2⟩
    · exact .inl ⟨by rw [eal]; exact h1, by rw [eal]; exact h2.of_block hb, pl' h3⟩
    · refine .inr (.inl ?_)
      have h3' : ∀ st : Stage, st = s2.st → ((st = .d2 ∨ st = .d3) ∧ WgAt ty Wg w' 1 0 ∨ st = .d4 ∧ WgAt ty Wg w' 0 0) := fun st e => by
        rw [e]; exact h3.imp (fun ⟨a, b⟩ => ⟨a, b.of_block hb⟩) (fun ⟨a, b⟩ => ⟨a, b.of_block hb⟩)
      have hst' : s'.st = s.st := by
        rcases hst with h | h
        · exact h
        · exfalso
          by_cases hk : j = k
          · subst hk; rw [hj] at h1; cases h1
            rcases h3 with ⟨h4 | h4, _⟩ | ⟨h4, _⟩ <;> rw [h4] at h <;> simp [Stage.al] at h
          · exact (pl h.1).2 (h2 j s hk hj)
      by_cases hk : j = k
      · subst hk; rw [hj] at h1; cases h1
        exact ⟨j, s', by simp [List.getElem?_set, hlt], fun i s3 hi h4 => by
          rcases get_set hj h4 with ⟨rfl, _⟩ | ⟨_, h5⟩
          · exact absurd rfl hi
          · exact h2 i s3 hi h5, h3' _ hst'⟩
      · exact ⟨k, s2, by rw [List.getElem?_set]; simp [hk, h1], fun i s3 hi h4 => by
          rcases get_set hj h4 with ⟨rfl, rfl⟩ | ⟨_, h5⟩
          · rw [hst']; exact h2 _ s hi hj
          · exact h2 i s3 hi h5, h3' _ rfl⟩
    · exact .inr (.inr ⟨go' h1, h2.of_block hb⟩)
  | w4 => simp only at h ⊢; exact ⟨go' h.1, h.2.of_block hb⟩
  | acq => simp only at h ⊢; exact ⟨go' h.1, h.2.of_block hb⟩
  | _ => simp only at h ⊢; rw [eal]; exact ⟨h.1.of_block hb, pl' h.2⟩

theorem moves_sync {x : Th} {O O' : Gh} {w' : World} {es : Array Event} (h : Moves x O w O' w' es) {c : Nat} (hc : O.tag c = .sync) (hlt : c < w.heap.size) : w'.heap[c]? = w.heap[c]? :=
  h.block c hlt fun hw => by rcases hw with h | ⟨h, _⟩ <;> rw [hc] at h <;> cases h
theorem open_of {w' : World} {c : Nat} (h : c < w.heap.size → w'.heap[c]? = w.heap[c]?) : (Open w c → Open w' c) ∧ (Shut w c → Shut w' c) :=
  ⟨fun h1 => by have h2 := h h1.lt; unfold Open at h1 ⊢; rw [h2]; exact h1, fun h1 => by have h2 := h h1.lt; unfold Shut at h1 ⊢; rw [h2]; exact h1⟩

theorem mem_set_self {j : Nat} {s s' : Sd} (hj : SD[j]? = some s) : s' ∈ SD.set j s' := by
  have hlt := (List.getElem?_eq_some_iff.1 hj).1
  exact List.mem_of_getElem? (i := j) (by simp [List.getElem?_set, hlt])

/-- A sender's own step. -/
theorem sender_own (h : PInv P ty Wg e AnchW Fin Old q0 tag SD m rm qo Sm gs w t) {j : Nat} {s : Sd} {a g' : Goroutine} (hj : SD[j]? = some s) (hi : gs[q0 + j]? = some a) {O' : Gh} {w' : World} {es : Array Event} {r' : Rk}
    (hst : stepG P false a w = .go g' w' es) (hm : Moves ⟨q0 + j, s.S⟩ ⟨tag, Deaf t (q0 + j)⟩ w O' w' es) (hr : Rk.lt r' s.rk) (hrel0 : s.rel = none) (hpk : s.pk = false) (hgone : s.st ≠ .gone)
    (hOK : (Open w s.c → Open w' s.c) → (Shut w s.c → Shut w' s.c) → SOK P ty Wg e ⟨q0 + j, s.S⟩ O' w' { s with rk := r' } g') : Nx P ty Wg e AnchW Fin Old q0 SD m rm qo gs w t sl (q0 + j) := by
  have hq := h.hq
  have hi0 : (q0 + j == 0) = false := by simp; omega
  have hlt := (Array.getElem?_eq_some_iff.1 hi).1
  have hjl := (List.getElem?_eq_some_iff.1 hj).1
  have hrun := runT_crowd_go (P := P) (sl := sl) hi (by rw [hi0]; exact hst)
  have hct : s.c < w.heap.size := by obtain ⟨a, _, hs⟩ := h.snd j s hj; exact hs.chan
  have hch : ∀ c, tag c = .sync → (Open w c → Open w' c) ∧ (Shut w c → Shut w' c) := fun c hc => open_of fun hlt => moves_sync hm hc hlt
  have hO : (⟨O'.tag, Deaf (t ++ MemOp.ofEvents (q0 + j) a.frame.fn a.frame.place es) (q0 + j)⟩ : Gh) = O' := by
    rw [Deaf_own]; have := hm.deaf; simp only at this; rw [← this]
  have eL : (SD.set j { s with rk := r' }).map Sd.L = SD.map Sd.L := map_set_same _ hj rfl
  have hti : TI Old Wg q0 w'.heap.size O'.tag (SD.map Sd.L) (t ++ MemOp.ofEvents (q0 + j) a.frame.fn a.frame.place es) :=
    h.ti.add hm.size hm.tags (adds_of_moves hm _ _) hq h.hold (.inr ⟨j, none, rfl, by rw [List.getElem?_map, hj]; simp [Sd.L, hrel0]⟩) (fun k S r e hk => by
      simp only at e
      obtain rfl : j = k := by omega
      rw [List.getElem?_map, hj] at hk; simp [Sd.L, hrel0] at hk)
  obtain ⟨m', rm', hP, hf, hw⟩ := h.turnS (u := MemOp.ofEvents (q0 + j) a.frame.fn a.frame.place es) (s' := { s with rk := r' }) hj (turned_woken hlt) rfl rfl (.inl rfl) (fun x d hx => hm.rel hx d) (fun c hc _ => hch c hc) ofEvents_g (by rw [hO]; exact hOK (hch s.c (h.chans j s hj).1).1 (hch s.c (h.chans j s hj).1).2)
    (by rw [eL]; exact hti) hm.size hm.tags (fun b hb hb' y hy => by
      rcases hm.new b hb hb' with h1 | ⟨h1, _⟩
      · rw [h1]; intro e; simp at e; omega
      · simp at h1; omega) (h.wg.keep hj (.inl rfl) (moves_sync hm h.wgt.1 h.wgt.2)) (fun hp => by simp [hpk] at hp) (fun e => .inl ⟨_, mem_set_self hj, hgone⟩) (fun F e => by
      obtain ⟨s2, l, h1, h2, h3⟩ := h.recv F j e
      rw [hj] at h1; cases h1
      obtain ⟨a2, _, hs⟩ := h.snd j s hj
      exact .inl ⟨l, (hch s.c (h.chans j s hj).1).1 (hs.open h2), h2, h3⟩)
  exact ⟨_, _, _, _, _, m', rm', qo, Sm, hrun, hP, mu_rk hf hw hj rfl rfl hr⟩

/-- A sender's step behind its release. -/
theorem sender_slip (h : PInv P ty Wg e AnchW Fin Old q0 tag SD m rm qo Sm gs w t) {j q' : Nat} {s : Sd} {a g' : Goroutine} (hj : SD[j]? = some s) (hi : gs[q0 + j]? = some a) {es : Array Event}
    (hst : ∀ w, stepG P false a w = .go g' w es) (hmute : ∀ x ∈ es, Event.mute x = true) (hq' : q' < s.q) (hpk : s.pk = false) (hnr : ∀ l, s.st ≠ .run l)
    (hOK : SOK P ty Wg e ⟨q0 + j, s.S⟩ ⟨tag, deafBehind (Deaf t (q0 + j)) es⟩ w { s with q := q' } g') : Nx P ty Wg e AnchW Fin Old q0 SD m rm qo gs w t sl (q0 + j) := by
  have hq := h.hq
  have hi0 : (q0 + j == 0) = false := by simp; omega
  have hlt := (Array.getElem?_eq_some_iff.1 hi).1
  have hjl := (List.getElem?_eq_some_iff.1 hj).1
  have hrun := runT_crowd_go (P := P) (sl := sl) hi (by rw [hi0]; exact hst w)
  have eL : (SD.set j { s with q := q' }).map Sd.L = SD.map Sd.L := map_set_same _ hj rfl
  have hti : TI Old Wg q0 w.heap.size tag (SD.map Sd.L) (t ++ MemOp.ofEvents (q0 + j) a.frame.fn a.frame.place es) := by
    refine h.ti.quiet (fun op hop => ?_) (fun op hop => ?_) (fun op hop => ?_) (fun op hop => ?_)
    · rw [ofEvents_g op hop, List.length_map]; omega
    · obtain ⟨x, hx, rfl⟩ := Go.Conc.mem_ofEvents hop; exact touch_mute (hmute x hx)
    · obtain ⟨x, hx, rfl⟩ := Go.Conc.mem_ofEvents hop; exact low_mute (hmute x hx) _
    · exact fun ad => (adds_sync (tag := tag) (n := w.heap.size) (y := q0 + j) (S := 0) (es := es) (fun e he => .inl (hmute e he)) a.frame.fn a.frame.place).norel ad op hop
  have hgone : m = .w3 true → (∃ s2 ∈ SD.set j { s with q := q' }, s2.st ≠ .gone) := fun e => by
    obtain ⟨s2, h2, h3⟩ := h.blkd e
    obtain ⟨k, hk⟩ := List.getElem?_of_mem h2
    by_cases hkj : k = j
    · subst hkj; rw [hj] at hk; cases hk
      exact ⟨_, mem_set_self hj, h3⟩
    · exact ⟨s2, List.mem_of_getElem? (i := k) (by rw [List.getElem?_set]; simp [Ne.symm hkj, hk]), h3⟩
  obtain ⟨m', rm', hP, hf, hw⟩ := h.turnS (u := MemOp.ofEvents (q0 + j) a.frame.fn a.frame.place es) (s' := { s with q := q' }) (tag' := tag) hj (turned_woken hlt) rfl rfl (.inl rfl) (fun x d hx => Rel.refl _ _ _) (fun c hc _ => ⟨id, id⟩) ofEvents_g (by rw [Deaf_own]; exact hOK)
    (by rw [eL]; exact hti) (Nat.le_refl _) (fun _ _ => rfl) (fun b hb hb' y hy => by omega) (h.wg.keep hj (.inl rfl) rfl) (fun hp => by simp [hpk] at hp) (fun e => .inl (hgone e)) (fun F e => by
      obtain ⟨s2, l, h1, h2, h3⟩ := h.recv F j e
      rw [hj] at h1; cases h1
      exact absurd h2 (hnr l))
  exact ⟨_, _, _, _, _, m', rm', qo, Sm, hrun, hP, mu_q hf hw hj rfl hq'⟩

/-- A sender's act on a block of synchronisation: it comes to another stage. -/
theorem sender_act (h : PInv P ty Wg e AnchW Fin Old q0 tag SD m rm qo Sm gs w t) {j : Nat} {s s' : Sd} {a g' : Goroutine} (hj : SD[j]? = some s) (hi : gs[q0 + j]? = some a) {es : Array Event} {w' : World}
    (hst : stepG P false a w = .go g' w' es) (hw : STurn tag w w') (hch : ∀ c, tag c = .sync → c ≠ s.c → (Open w c → Open w' c) ∧ (Shut w c → Shut w' c))
    (hc : s'.c = s.c) (hS : s'.S = s.S) (hsn : s'.st.left = s.st.left ∨ ¬ m.early) (hpk : s'.pk = false)
    (hti : TI Old Wg q0 w.heap.size tag ((SD.set j s').map Sd.L) (t ++ MemOp.ofEvents (q0 + j) a.frame.fn a.frame.place es))
    (hwg : WgOK ty Wg m (SD.set j s') w') (hwt : s'.st.wt + 2 < s.st.wt ∨ (s'.st.wt < s.st.wt ∧ s'.st.al = s.st.al))
    (hblk : m = .w3 true → (∃ s2 ∈ SD.set j s', s2.st ≠ .gone) ∨ (mayWake P a = true ∧ g'.status = .running))
    (hP : ∀ F, m = .P F j → Shut w' s.c ∧ mayWake P a = true ∧ g'.status = .running)
    (hOK : SOK P ty Wg e ⟨q0 + j, s.S⟩ ⟨tag, deafBehind (Deaf t (q0 + j)) es⟩ w' s' g') : Nx P ty Wg e AnchW Fin Old q0 SD m rm qo gs w t sl (q0 + j) := by
  have hq := h.hq
  have hi0 : (q0 + j == 0) = false := by simp; omega
  have hlt := (Array.getElem?_eq_some_iff.1 hi).1
  have hrun := runT_crowd_go (P := P) (sl := sl) hi (by rw [hi0]; exact hst)
  have hwake : (mayWake P a = true ∧ g'.status = .running) → ∀ b, gs[0]? = some b → ((gs.map (woken P a g' w')).setIfInBounds (q0 + j) g')[0]? = some (b.again w') := fun hh b hb => woken_all hh.1 hh.2 0 b (by omega) hb
  obtain ⟨m', rm', hP, hf, hww⟩ := h.turnS (u := MemOp.ofEvents (q0 + j) a.frame.fn a.frame.place es) (s' := s') (tag' := tag) hj (turned_woken hlt) hc hS hsn (fun x d _ => hw.rel x d) hch ofEvents_g (by rw [Deaf_own]; exact hOK)
    (by rw [hw.size]; exact hti) (by rw [hw.size]; exact Nat.le_refl _) (fun _ _ => rfl) (fun b hb hb' y hy => by rw [hw.size] at hb'; omega) hwg (fun hp => by simp [hpk] at hp) (fun e => (hblk e).imp id hwake) (fun F e => .inr ⟨(hP F e).1, hwake (hP F e).2⟩)
  exact ⟨_, _, _, _, _, m', rm', qo, Sm, hrun, hP, mu_wt hf hww hj hwt⟩
end
end Go.Proofs.Ytdajdembeacefaa.M

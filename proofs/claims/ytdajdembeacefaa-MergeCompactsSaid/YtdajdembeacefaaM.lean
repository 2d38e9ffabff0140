/-
  THE PHASE, 6: each step of main; its end.
-/
import Derived.Test.YtdajdembeacefaaL
set_option linter.unusedSimpArgs false
set_option linter.unusedVariables false
namespace Go.Proofs.Ytdajdembeacefaa.M
open Go.Conc
open Go.ConcR (KK wgBlock WgAt stA smA rd wr mk)

/-- A FRAME: what is held of the machine between two phases: all but main only leave. -/
structure FInv (P : Program) (Old : Loc → Prop) (q0 : Nat) (tag : Nat → Tag) (qo : Nat → Nat) (gs : Array Goroutine) (w : World) (t : Trace) : Prop where
  size : gs.size = q0
  hq : 0 < q0
  old : ∀ (i : Nat) (a : Goroutine), 0 < i → gs[i]? = some a → QuitsD P (qo i) (Deaf t i) a
  above : ∀ i, gs.size ≤ i → Deaf t i = 0
  ti : TI Old 0 q0 w.heap.size tag [] t
  hold : ∀ l, Old l → ∃ b, blk l = some b ∧ b < w.heap.size ∧ tag b = .sync
  tags : ∀ b, b < w.heap.size → tag b = .mine 0 ∨ tag b = .sync ∨ tag b = .fresh

section
variable {P : Program} {ty : TypeId} {Wg e : Nat} {AnchW Fin : Gh → Goroutine → World → Prop} {Old : Loc → Prop} {q0 : Nat} {tag : Nat → Tag} {SD : List Sd} {m m' : MSt} {rm rm' : Rk} {qo : Nat → Nat} {Sm : Nat}
  {gs : Array Goroutine} {w w' : World} {t : Trace} {sl : Option (Nat × Nat)}

theorem main_own (h : PInv P ty Wg e AnchW Fin Old q0 tag SD m rm qo Sm gs w t) {a g' : Goroutine} (hi : gs[0]? = some a) {O' : Gh} {es : Array Event}
    (hst : stepG P true a w = .go g' w' es) (hm : Moves x0 ⟨tag, Deaf t 0⟩ w O' w' es) (hr : Rk.lt rm' rm) (hnP : ∀ F j, m ≠ .P F j) (hn3 : m ≠ .w3 true)
    (hOK : MOK P ty Wg e AnchW Fin Sm (SD.map Sd.snd) O' w' m rm' g') : Nx P ty Wg e AnchW Fin Old q0 SD m rm qo gs w t sl 0 := by
  have hq := h.hq
  have hlt := (Array.getElem?_eq_some_iff.1 hi).1
  have hrun := runT_crowd_go (P := P) (sl := sl) hi hst
  have hch : ∀ c, tag c = .sync → (Open w c → Open w' c) ∧ (Shut w c → Shut w' c) := fun c hc => open_of fun hlt => moves_sync hm hc hlt
  have hO : (⟨O'.tag, Deaf (t ++ MemOp.ofEvents 0 a.frame.fn a.frame.place es) 0⟩ : Gh) = O' := by
    rw [Deaf_own]; have := hm.deaf; simp only at this; rw [← this]
  have hti : TI Old Wg q0 w'.heap.size O'.tag (SD.map Sd.L) (t ++ MemOp.ofEvents 0 a.frame.fn a.frame.place es) :=
    h.ti.add hm.size hm.tags (adds_of_moves hm _ _) hq h.hold (.inl rfl) (fun k S r e hk => by simp only [x0] at e; omega)
  have hwg : WgOK ty Wg m SD w' := by
    have hb := moves_sync hm h.wgt.1 h.wgt.2
    have := h.wg
    unfold WgOK at this ⊢
    cases m with
    | w3 b =>
      simp only at this ⊢
      rcases this with ⟨h1, h2, h3⟩ | ⟨k, s, h1, h2, h3⟩ | ⟨h1, h2⟩
      · exact .inl ⟨h1, h2.of_block hb, h3⟩
      · exact .inr (.inl ⟨k, s, h1, h2, h3.imp (fun h => ⟨h.1, h.2.of_block hb⟩) fun h => ⟨h.1, h.2.of_block hb⟩⟩)
      · exact .inr (.inr ⟨h1, h2.of_block hb⟩)
    | w4 => exact ⟨this.1, this.2.of_block hb⟩
    | acq => exact ⟨this.1, this.2.of_block hb⟩
    | _ => exact ⟨this.1.of_block hb, this.2⟩
  have hP := h.turnM (u := MemOp.ofEvents 0 a.frame.fn a.frame.place es) (tag' := O'.tag) (turned_woken (P := P) (g := a) (w' := w') hlt) (fun x d hx => hm.rel hx d) hch ofEvents_g (by rw [hO]; exact hOK) hti hm.size hm.tags (fun b hb hb' y hy => by
      rcases hm.new b hb hb' with h1 | ⟨_, h1⟩
      · rw [h1]; intro e; simp [x0] at e; omega
      · rw [h1]; intro e; cases e) hwg Iff.rfl (fun e => absurd e hn3) (fun F j e => absurd e (hnP F j))
  exact ⟨_, _, _, _, SD, m, rm', qo, Sm, hrun, hP, mu_main rfl (.inr (.inl ⟨rfl, hr⟩))⟩

/-- Main's act on a block of synchronisation: it comes to another stage. -/
theorem main_act (h : PInv P ty Wg e AnchW Fin Old q0 tag SD m rm qo Sm gs w t) {a g' : Goroutine} (hi : gs[0]? = some a) {es : Array Event}
    (hst : stepG P true a w = .go g' w' es) (hw : STurn tag w w') (hch : ∀ c, tag c = .sync → (Open w c → Open w' c) ∧ (Shut w c → Shut w' c))
    (hes : ∀ x ∈ es, x.mute = true ∨ (∃ a wr, x = ⟨.cell a, wr, true⟩ ∧ a.block < w.heap.size ∧ tag a.block = .sync) ∨ (∃ r wr, x = ⟨.obj r, wr, true⟩ ∧ r < w.heap.size ∧ tag r = .sync))
    (hOK : MOK P ty Wg e AnchW Fin Sm (SD.map Sd.snd) ⟨tag, deafBehind (Deaf t 0) es⟩ w' m' rm' g') (hwg : WgOK ty Wg m' SD w') (hea : m'.early ↔ m.early) (hblk : m' = .w3 true → ∃ s ∈ SD, s.st ≠ .gone) (hP : ∀ F j, m' ≠ .P F j)
    (hfu : m'.fu = m.fu) (hlt : m'.wt (al SD) < m.wt (al SD) ∨ (m'.wt (al SD) = m.wt (al SD) ∧ Rk.lt rm' rm)) : Nx P ty Wg e AnchW Fin Old q0 SD m rm qo gs w t sl 0 := by
  have hq := h.hq
  have hlt0 := (Array.getElem?_eq_some_iff.1 hi).1
  have hrun := runT_crowd_go (P := P) (sl := sl) hi hst
  have hP := h.turnM (u := MemOp.ofEvents 0 a.frame.fn a.frame.place es) (tag' := tag) (turned_woken (P := P) (g := a) (w' := w') hlt0) (fun x d _ => hw.rel x d) hch ofEvents_g (by rw [Deaf_own]; exact hOK)
    (by rw [hw.size]; exact h.ti.add (Nat.le_refl _) (fun _ _ => rfl) (S := 0) (adds_sync hes _ _) hq h.hold (.inl rfl) (fun k S r e hk => by omega)) (by rw [hw.size]; exact Nat.le_refl _) (fun _ _ => rfl) (fun b hb hb' y hy => by rw [hw.size] at hb'; omega) hwg hea hblk (fun F j e => absurd e (hP F j))
  exact ⟨_, _, _, _, SD, m', rm', qo, Sm, hrun, hP, mu_main hfu (hlt.imp id .inr)⟩

theorem cell_open {st sm : Int} (h : WgAt ty Wg w st sm) (a : Addr) (ha : a.block = Wg) (v : Value) (c : Nat) : (Open w c → Open (w.setCell a v) c) ∧ (Shut w c → Shut (w.setCell a v) c) := by
  by_cases hcW : c = Wg
  · subst hcW
    refine ⟨fun ⟨_, _, _, ho⟩ => ?_, fun ⟨_, _, _, ho⟩ => ?_⟩ <;> (have := h; unfold WgAt wgBlock at this; rw [ho] at this; cases this)
  · exact open_of fun _ => (aside_setCell w a v).block c (by rw [ha]; exact hcW)

/-- Main at its script. -/
theorem main_A (h : PInv P ty Wg e AnchW Fin Old q0 tag SD m rm qo Sm gs w t) (hAn : ∀ O g w, AnchW O g w → Tree P x0 (AtW1 P ty Wg Fin AnchW) O g w) {F : Nat} (hm : m = .A F) {a : Goroutine} (hi : gs[0]? = some a)
    (hM : MOK P ty Wg e AnchW Fin Sm (SD.map Sd.snd) ⟨tag, Deaf t 0⟩ w m rm a) : Nx P ty Wg e AnchW Fin Old q0 SD m rm qo gs w t sl 0 := by
  subst hm
  have hq := h.hq
  have hil := (Array.getElem?_eq_some_iff.1 hi).1
  obtain ⟨g, o, rfl, hg, hT⟩ := hM
  have same : ∀ w, stepG P true { g with offers := o } w = stepG P true g w := fun w => stepG_same rfl rfl rfl w
  rcases hT.cases with ⟨hr, hs⟩ | ⟨_, hs⟩
  · rcases hs _ _ (Rel.refl _ _ _) with ⟨_, hs⟩ | ⟨_, hoff, j, c, l, z, hsn, hstep, hnx⟩ | ⟨_, hd, hmw, hs⟩
    · -- it adds
      have hwg := h.wg
      obtain ⟨g', hst, hT'⟩ := hs (al SD) (by rw [List.length_map]; exact al_le) hwg.1
      obtain ⟨r', hr'⟩ := hT'.rank
      refine main_act (m' := .go F) (rm' := r') h hi ((same w).trans hst) (STurn.aside (c := Wg) h.wgt.1 (aside_setCell w (stA Wg) _) (shape_setCell w _ _)) (fun c _ => cell_open hwg.1 _ rfl _ c) (fun x hx => by
        simp [rd, wr] at hx
        rcases hx with rfl | rfl <;> exact .inr (.inl ⟨_, _, rfl, h.wgt.2, h.wgt.1⟩)) (by rw [deaf_group]; exact hr') ⟨?_, hwg.2⟩ Iff.rfl (fun e => by cases e) (fun F j e => by cases e) rfl (.inl (by simp [MSt.wt]))
      have : ((al SD + 1 : Nat) : Int) * KK = ((al SD : Nat) + 1 : Int) * KK := by simp only [KK]; omega
      rw [this]; exact hwg.1.setSt _
    · -- it receives
      rw [List.getElem?_map] at hsn
      obtain ⟨s, hj, e2⟩ := Option.map_eq_some_iff.1 hsn
      simp only [Sd.snd, Prod.mk.injEq] at e2
      obtain ⟨rfl, rfl⟩ := e2
      have hsn : (SD.map Sd.snd)[j]? = some (s.c, s.st.left) := by rw [List.getElem?_map, hj]; rfl
      have hjl := (List.getElem?_eq_some_iff.1 hj).1
      have hcomm : stepG P (0 == 0) { g with offers := o } w = .comm g #[rcase s.c z] true (.recv true) w #[] := (same w).trans (hstep w)
      obtain ⟨as, has, hS⟩ := h.snd j s hj
      by_cases hru : ∃ l, s.st = .run l
      · obtain ⟨l, hst⟩ := hru
        have hS0 := hS
        unfold SOK at hS
        simp only [hst] at hS
        obtain ⟨h1, h2, h3, h4⟩ := hS
        obtain ⟨sc, rc, tm, hch⟩ := h3
        have hcl := (Array.getElem?_eq_some_iff.1 hch).1
        cases hp : s.pk with
        | true =>
          simp only [hp] at h4
          obtain ⟨gj, v, l', zj, z2, rfl, rfl, hg2, hoff2, hstep2, hnx2⟩ := h4
          have hmeet := recv_meets_sel (sl := sl) hi hcomm hch (by omega : q0 + j ≠ 0) has (h.sender_sends hj has)
          rw [nil_ops, Array.empty_append] at hmeet
          have hw : STurn tag w (w.setChan s.c 0 #[] false (sc + 1) (rc + 1) tm) := STurn.put (h.chans j s hj).1 (by simp) (chan_shape hch)
          obtain ⟨hti, hnm⟩ := ti_meet4 h (i := q0 + j) (k := 0) hcl (by omega) (by omega) gj.frame.fn gj.frame.place g.frame.fn g.frame.place sc rc
          obtain ⟨rs, hrs⟩ := (SRun_eq P ty Wg e ⟨q0 + j, s.S⟩ s.c l' ▸ (hnx2 _ _ (hw.rel ⟨q0 + j, s.S⟩ (Deaf t (q0 + j)))).1 : Tree P _ _ _ _ _).rank
          have hmm := hnx _ _ (hw.rel x0 (Deaf t 0))
          rw [hst] at hmm
          obtain ⟨F', rfl, rm', hrm⟩ := mrun (show MRun P ty Wg e AnchW F Sm ((SD.map Sd.snd).set j (s.c, l')) _ _ _ from hmm)
          refine ⟨_, _, _, tag, _, .A F', rm', qo, Sm, hmeet, h.meet (rs := rs) hj hst trivial (fun F e => by cases e) (by simp) (by
              rw [Array.getElem?_setIfInBounds_self_of_lt (by simp; omega)]) (by
              have := (Array.getElem?_eq_some_iff.1 has).1
              rw [Array.getElem?_setIfInBounds_ne (by omega), Array.getElem?_setIfInBounds_self_of_lt this]) (fun k a hk0 hkj ha => by
              rw [Array.getElem?_setIfInBounds_ne (Ne.symm hk0), Array.getElem?_setIfInBounds_ne (Ne.symm hkj)]; exact ha) hw (fun c => chan_put hch) ?_ hnm (by rw [hw.size]; exact hti) ?_ ?_, mu_fu (by simp [MSt.fu]) _⟩
          · simp [World.setChan, Array.getElem?_setIfInBounds_ne (h.chans j s hj).2.2.1]
          · rw [deaf_nomark hnm]
            exact ⟨_, none, rfl, rfl, hrm⟩
          · rw [deaf_nomark hnm]
            refine ⟨h1, h2, (chan_put hch).1 ⟨sc, rc, tm, hch⟩, _, none, rfl, rfl, hrs⟩
        | false =>
          have hwait := crowd_waits (sl := sl) hi hcomm (fun cc hcc => by
            simp only [List.mem_toArray, List.mem_cons, List.not_mem_nil, or_false] at hcc
            subst hcc
            exact ways_recv_none hch (h.sender_none hj hp))
          rw [nil_ops] at hwait
          have hPI := h.turnM (u := #[]) (tag' := tag) (m' := .P F j) (rm' := .z) (turned_set (w' := w) hil) (fun x d _ => Rel.refl _ _ _) (fun c _ => ⟨id, id⟩) (by simp)
            (by rw [Array.append_empty]; exact ⟨g, s.c, s.st.left, z, hsn, rfl, hg, hoff, hstep, hnx⟩) (by rw [Array.append_empty]; exact h.ti) (Nat.le_refl _) (fun _ _ => rfl) (fun b hb hb' y hy => by omega) h.wg Iff.rfl (fun e => by cases e) (fun F' j' e => by cases e; exact ⟨s, l, hj, hst, hp⟩)
          exact ⟨_, _, _, _, SD, .P F j, .z, qo, Sm, hwait, hPI, mu_main rfl (.inr (.inr ⟨rfl, hr⟩))⟩
      · -- closed
        have hl : s.st.left = [] := by cases hst : s.st with | run l => exact absurd ⟨l, hst⟩ hru | _ => rfl
        have hsh : Shut w s.c := by
          unfold SOK at hS
          cases hst : s.st with
          | run l => exact absurd ⟨l, hst⟩ hru
          | clo => simp only [hst] at hS; exact hS.2.2.1
          | _ => simp only [hst] at hS; exact hS.2.1
        have hp : s.pk = false := by
          unfold SOK at hS
          cases hst : s.st with
          | run l => exact absurd ⟨l, hst⟩ hru
          | clo => simp only [hst] at hS; exact hS.2.2.2.1
          | _ => simp only [hst] at hS; exact hS.2.2.1
        obtain ⟨sc, rc, tm, hch⟩ := hsh
        have hcl := (Array.getElem?_eq_some_iff.1 hch).1
        have hgo := crowd_recv_closed (sl := sl) hi hcomm hch (h.sender_none hj hp)
        rw [nil_ops, Array.empty_append] at hgo
        have e3 : g.finishComm P #[rcase s.c z] (.recv true) ((0 : Nat) : Int) z false = Go.Conc.served g (.tuple #[z, .bool false]) := rfl
        obtain ⟨hti, hnm⟩ := ti_meet h (u := #[{ g := 0, fn := g.frame.fn, pos := g.frame.place, act := .recvClosed s.c }]) hcl (fun op hop => by
          simp at hop; subst hop
          exact ⟨by simp; omega, .inr (.inr (.inr (.inr rfl)))⟩)
        have hmm := hnx _ _ (Rel.refl _ _ _)
        rw [hl] at hmm
        obtain ⟨F', rfl, rm', hrm⟩ := mrun (show MRun P ty Wg e AnchW F Sm (SD.map Sd.snd) _ _ _ from hmm)
        have hPI := h.turnM (u := #[{ g := 0, fn := g.frame.fn, pos := g.frame.place, act := .recvClosed s.c }]) (tag' := tag) (m' := .A F') (rm' := rm') (turned_set (w' := w) hil) (fun x d _ => Rel.refl _ _ _) (fun c _ => ⟨id, id⟩) (by simp)
          (by rw [deaf_nomark hnm]; exact ⟨_, none, rfl, rfl, hrm⟩) hti (Nat.le_refl _) (fun _ _ => rfl) (fun b hb hb' y hy => by omega) h.wg Iff.rfl (fun e => by cases e) (fun F' j' e => by cases e)
        exact ⟨_, _, _, _, SD, .A F', rm', qo, Sm, hgo, hPI, mu_fu (by simp [MSt.fu]) _⟩
    · -- it closes 'enough'
      obtain ⟨se, re, te, hce⟩ := h.eopen.1 trivial
      obtain ⟨g', hst, hg', hT'⟩ := hs se re te hce
      obtain ⟨r', hr'⟩ := (Tree.bind hAn hT').rank
      have hrun := runT_crowd_go (P := P) (sl := sl) hi ((same w).trans hst)
      have hel := (Array.getElem?_eq_some_iff.1 hce).1
      have hw : STurn tag w (w.shut e se re te) := STurn.put h.et.1 (by simp) (chan_shape hce)
      obtain ⟨SD', hPI⟩ := h.turnE (u := MemOp.ofEvents 0 g.frame.fn g.frame.place (closeEv e)) (rm' := r') rfl (gs' := (gs.map (woken P { g with offers := o } g' (w.shut e se re te))).setIfInBounds 0 g') (by simp) (by
          rw [Array.getElem?_setIfInBounds_self_of_lt (by simp; exact hil)]) (fun k a hk ha => woken_all hmw hg' k a hk ha) hw (fun c hc => open_of fun _ => shut_ne hc) (shutOf hce) (shut_ne (Ne.symm h.et.2)) ofEvents_g
        (by rw [hw.size]; exact h.ti.add (Nat.le_refl _) (fun _ _ => rfl) (S := 0) (adds_sync (fun x hx => by
              simp [closeEv] at hx
              rcases hx with rfl | rfl <;> exact .inr (.inr ⟨_, _, rfl, hel, h.et.1⟩)) _ _) hq h.hold (.inl rfl) (fun k S r e hk => by omega))
        (by rw [Deaf_own, deaf_close]; exact hr')
      exact ⟨_, _, _, _, SD', .anch, r', qo, Sm, hrun, hPI, mu_fu (by simp [MSt.fu]) _⟩
  · obtain ⟨g', w', es, O', r', hr, hstep, hm, hT'⟩ := hs _ _ (Rel.refl _ _ _)
    exact main_own h hi ((same w).trans hstep) hm hr (fun F j e => by cases e) (by simp) ⟨g', g'.offers, rfl, hT'.running fun _ _ _ hh => MStop.running hh, hT'⟩

/-- Main's every step but the last. -/
theorem main_step (h : PInv P ty Wg e AnchW Fin Old q0 tag SD m rm qo Sm gs w t) (hAn : ∀ O g w, AnchW O g w → Tree P x0 (AtW1 P ty Wg Fin AnchW) O g w) {a : Goroutine} (hi : gs[0]? = some a) (hrun : a.status = .running) :
    Nx P ty Wg e AnchW Fin Old q0 SD m rm qo gs w t sl 0 ∨
    ∃ gs' g' u tag' qo' Old' q0', runT P (crowd gs w sl) 0 = (.next (crowd gs' w sl), u) ∧ FInv P Old' q0' tag' qo' gs' w (t ++ u) ∧ gs'[0]? = some g' ∧ Tree P x0 Fin ⟨tag', Deaf (t ++ u) 0⟩ g' w := by
  have hq := h.hq
  have hil := (Array.getElem?_eq_some_iff.1 hi).1
  obtain ⟨a', ha', hM⟩ := h.main
  rw [hi] at ha'; cases ha'
  have hwg := h.wg
  have hrd : ∀ x ∈ #[rd (stA Wg)], x.mute = true ∨ (∃ a wr, x = ⟨.cell a, wr, true⟩ ∧ a.block < w.heap.size ∧ tag a.block = .sync) ∨ (∃ r wr, x = ⟨.obj r, wr, true⟩ ∧ r < w.heap.size ∧ tag r = .sync) := fun x hx => by
    simp [rd] at hx; subst hx; exact .inr (.inl ⟨_, _, rfl, h.wgt.2, h.wgt.1⟩)
  have own : ∀ {St : Gh → Goroutine → World → Prop} {m : MSt}, PInv P ty Wg e AnchW Fin Old q0 tag SD m rm qo Sm gs w t → (∀ F j, m ≠ .P F j) → m ≠ .w3 true →
      (∀ r' O' w' g', TreeR P x0 St r' O' g' w' → MOK P ty Wg e AnchW Fin Sm (SD.map Sd.snd) O' w' m r' g') →
      (∀ O1 w1, Rel x0 ⟨tag, Deaf t 0⟩ w O1 w1 → ∃ g' w' es O' r', Rk.lt r' rm ∧ stepG P (x0.id == 0) a w1 = .go g' w' es ∧ Moves x0 O1 w1 O' w' es ∧ TreeR P x0 St r' O' g' w') → Nx P ty Wg e AnchW Fin Old q0 SD m rm qo gs w t sl 0 := by
    intro St m h h1 h2 h3 hs
    obtain ⟨g', w', es, O', r', hr, hstep, hmv, hT'⟩ := hs _ _ (Rel.refl _ _ _)
    exact main_own h hi hstep hmv hr h1 h2 (h3 _ _ _ _ hT')
  cases m with
  | A F => exact .inl (main_A h hAn rfl hi hM)
  | P F j =>
    obtain ⟨g, c, l, z, _, rfl, _⟩ := hM
    cases hrun
  | go F =>
    have hM' : TreeR P x0 (AtGo P ty Wg e (MRun P ty Wg e AnchW F) Sm (SD.map Sd.snd)) rm ⟨tag, Deaf t 0⟩ a w := hM
    rcases hM'.cases with ⟨_, hs⟩ | ⟨_, hs⟩
    · left
      obtain ⟨_, hd, hlen, g', child, O', c, l, s, r, tm, hst, hcr, hret, hch, hct, hce, hcW, hcn, hchild, hnx⟩ := hs _ _ (Rel.refl _ _ _)
      have hrunT := runT_crowd_spawn (P := P) (sl := sl) hi hst
      rw [nil_ops] at hrunT
      rw [List.length_map] at hlen
      have hsz : gs.size = q0 + SD.length := h.size
      have hdd : (⟨O'.tag, Deaf t 0⟩ : Gh) = O' := by have := hret.1; simp only at this; rw [← this]
      have hD : ∀ k, Deaf (t ++ #[({ g := 0, fn := a.frame.fn, pos := a.frame.place, act := .go gs.size } : MemOp), { g := gs.size, fn := child.frame.fn, pos := a.frame.place, act := .start }]) k = Deaf t k := fun k => deaf_nomark (fun op hop m => by
        simp only [List.mem_toArray, List.mem_cons, List.not_mem_nil, or_false] at hop
        rcases hop with rfl | rfl <;> simp) k
      have hchild' := hchild (q0 + SD.length) (by omega)
      rw [SRun_eq] at hchild'
      obtain ⟨rs, hrs⟩ := Tree.rank hchild'
      obtain ⟨F', rfl, rm', hrm⟩ := mrun hnx
      have h0s : Deaf t (q0 + SD.length) = 0 := h.above _ (by omega)
      have hPI := h.spawn (tag' := O'.tag) (u := #[({ g := 0, fn := a.frame.fn, pos := a.frame.place, act := .go gs.size } : MemOp), { g := gs.size, fn := child.frame.fn, pos := a.frame.place, act := .start }]) (rs := rs) (m' := .A F') (rm' := rm') (a' := g') (child := child) (l := l) rfl (by rw [hdd]; exact hret) ⟨s, r, tm, hch⟩ hct hce hcW hcn hlen hD ?_ ?_ ⟨F', rfl⟩ ?_
      · exact ⟨_, _, _, _, _, .A F', rm', qo, _, hrunT, hPI, mu_fu (by simp [MSt.fu]) _⟩
      · have hti1 : TI Old Wg q0 w.heap.size (fun b => match tag b with | .fresh => O'.tag b | _ => tag b) (SD.map Sd.L) t := by
          refine h.ti.retag fun b hb => ?_
          rcases hret.2 b with h1 | ⟨h1, h2, h3⟩ | ⟨h1, h2⟩ <;> simp only at h1
          · left; split
            · exact h1
            · rfl
          · left; simp only [h1]
          · right; simp only [h1]; exact ⟨trivial, h2⟩
        refine hti1.spawn hq ⟨rfl, by simp [hsz]⟩ ⟨by simp [hsz], rfl⟩ hd (fun b hb => ?_) (fun b hb => ?_) (fun l hl => ?_)
        rotate_left
        · split
          · rename_i hf
            rcases hret.2 b with h1 | ⟨h1, h2, h3⟩ | ⟨h1, h2⟩ <;> simp only at h1
            · rw [h1, hf]; simp
            · rw [hf] at h1; cases h1
            · rw [h2]; simp
          · exact h.tags b hb _ (by simp)
        · obtain ⟨b, h1, h2, h3⟩ := h.hold l hl
          exact ⟨b, h1, h2, by simp only [h3]⟩
        rcases hret.2 b with h1 | ⟨h1, h2, h3⟩ | ⟨h1, h2⟩ <;> simp only at h1
        · left; split
          · rfl
          · exact h1
        · refine .inr ⟨by simp only [h1], h2, fun j S r hj => ?_⟩
          rw [List.getElem?_map] at hj
          obtain ⟨s2, hs2, e2⟩ := Option.map_eq_some_iff.1 hj
          simp only [Sd.L, Prod.mk.injEq] at e2
          have := (h.chans j s2 hs2).2.2.2
          omega
        · left; simp only [h1]
      · rw [hD, hdd]
        exact ⟨g', g'.offers, rfl, hrm.running fun _ _ _ hh => MStop.running hh, hrm⟩
      · rw [hD, h0s]
        refine ⟨rfl, rfl, ⟨s, r, tm, hch⟩, child, child.offers, rfl, hcr, hrs⟩
    · exact .inl (own h (fun F j e => by cases e) (by simp) (fun _ _ _ _ h => h) hs)
  | anch =>
    have hM' : TreeR P x0 (AtW1 P ty Wg Fin AnchW) rm ⟨tag, Deaf t 0⟩ a w := hM
    rcases hM'.cases with ⟨_, hs⟩ | ⟨_, hs⟩
    · left
      obtain ⟨_, hs⟩ := hs _ _ (Rel.refl _ _ _)
      have := al_le (SD := SD)
      have hlen := h.len
      obtain ⟨g', hst, h0, h1⟩ := hs (al SD) (by omega) hwg.1
      by_cases hv : al SD = 0
      · obtain ⟨r', hr'⟩ := (h0 hv).rank
        refine main_act (m' := .acq) (rm' := r') h hi hst (STurn.refl _ _) (fun c _ => ⟨id, id⟩) hrd (by rw [deaf_rd]; exact hr') ⟨al_zero hv hwg.2, ?_⟩ Iff.rfl (fun e => by cases e) (fun F j e => by cases e) rfl (.inl (by simp [MSt.wt]))
        have hw1 := hwg.1
        rw [hv] at hw1; simpa using hw1
      · obtain ⟨r', hr'⟩ := (h1 hv).rank
        exact main_act (m' := .w2 (al SD)) (rm' := r') h hi hst (STurn.refl _ _) (fun c _ => ⟨id, id⟩) hrd (by rw [deaf_rd]; exact ⟨hv, hr'⟩) hwg Iff.rfl (fun e => by cases e) (fun F j e => by cases e) rfl (.inl (by simp [MSt.wt]))
    · exact .inl (own h (fun F j e => by cases e) (by simp) (fun _ _ _ _ h => h) hs)
  | w2 vs =>
    have hM' : vs ≠ 0 ∧ TreeR P x0 (AtW2 P ty Wg Fin AnchW vs) rm ⟨tag, Deaf t 0⟩ a w := hM
    rcases hM'.2.cases with ⟨_, hs⟩ | ⟨_, hs⟩
    · left
      obtain ⟨_, hs⟩ := hs _ _ (Rel.refl _ _ _)
      have := al_le (SD := SD)
      have hlen := h.len
      obtain ⟨h0, h1⟩ := hs (al SD) (by omega) hwg.1
      by_cases hv : al SD = vs
      · obtain ⟨g', hst, hT⟩ := h0 hv
        obtain ⟨r', hr'⟩ := hT.rank
        refine main_act (m' := .w3 false) (rm' := r') h hi hst (STurn.aside (c := Wg) h.wgt.1 (aside_setCell w (stA Wg) _) (shape_setCell w _ _)) (fun c _ => cell_open hwg.1 _ rfl _ c) (fun x hx => by
          simp [rd, wr] at hx
          rcases hx with rfl | rfl <;> exact .inr (.inl ⟨_, _, rfl, h.wgt.2, h.wgt.1⟩)) (by rw [deaf_group]; exact hr') (.inl ⟨by have := hM'.1; omega, hwg.1.setSt _, hwg.2⟩) Iff.rfl (fun e => by cases e) (fun F j e => by cases e) rfl (.inl (by simp [MSt.wt, hv]))
      · obtain ⟨g', hst, hT⟩ := h1 hv
        obtain ⟨r', hr'⟩ := (Tree.bind hAn hT).rank
        exact main_act (m' := .anch) (rm' := r') h hi hst (STurn.refl _ _) (fun c _ => ⟨id, id⟩) hrd (by rw [deaf_rd]; exact hr') hwg Iff.rfl (fun e => by cases e) (fun F j e => by cases e) rfl (.inl (by simp [MSt.wt, Ne.symm hv]))
    · exact .inl (own h (fun F j e => by cases e) (by simp) (fun _ _ _ _ h => ⟨hM'.1, h⟩) hs)
  | w3 b =>
    cases b with
    | true =>
      obtain ⟨g, rfl, _⟩ := hM
      cases hrun
    | false =>
      have hM' : TreeR P x0 (AtW3 P ty Wg Fin) rm ⟨tag, Deaf t 0⟩ a w := hM
      rcases hM'.cases with ⟨hr, hs⟩ | ⟨_, hs⟩
      · left
        obtain ⟨ha, hoff, hb, hp⟩ := hs _ _ (Rel.refl _ _ _)
        have block : (∃ st, WgAt ty Wg w st 0) → (∃ s ∈ SD, s.st ≠ .gone) → Nx P ty Wg e AnchW Fin Old q0 SD (.w3 false) rm qo gs w t sl 0 := fun hx hy =>
          main_act (m' := .w3 true) (rm' := .z) h hi (hb hx) (STurn.refl _ _) (fun c _ => ⟨id, id⟩) (by simp) ⟨a, rfl, ha, hoff, hs⟩ hwg Iff.rfl (fun _ => hy) (fun F j e => by cases e) rfl (.inr ⟨rfl, hr⟩)
        rcases hwg with ⟨h1, h2, h3⟩ | ⟨k, s, h1, h2, h3⟩ | ⟨h1, h2⟩
        · exact block ⟨_, h2⟩ (al_pos h1)
        · refine block ?_ ⟨s, List.mem_of_getElem? h1, ?_⟩
          · rcases h3 with ⟨_, h⟩ | ⟨_, h⟩ <;> exact ⟨_, h⟩
          · rcases h3 with ⟨h | h, _⟩ | ⟨h, _⟩ <;> rw [h] <;> simp
        · obtain ⟨g', hst, hT⟩ := hp h2
          obtain ⟨r', hr'⟩ := hT.rank
          refine main_act (m' := .w4) (rm' := r') h hi hst (STurn.aside (c := Wg) h.wgt.1 (aside_setCell w (smA Wg) _) (shape_setCell w _ _)) (fun c _ => cell_open h2 _ rfl _ c) (fun x hx => by
            simp [semEvents] at hx
            rcases hx with rfl | rfl | rfl | rfl
            · exact .inl rfl
            · exact .inr (.inl ⟨_, _, rfl, h.wgt.2, h.wgt.1⟩)
            · exact .inr (.inl ⟨_, _, rfl, h.wgt.2, h.wgt.1⟩)
            · exact .inl rfl) ?_ ⟨h1, h2.setSm 0⟩ Iff.rfl (fun e => by cases e) (fun F j e => by cases e) rfl (.inl (by simp [MSt.wt]))
          have : deafBehind (Deaf t 0) (semEvents (smA Wg)) = Deaf t 0 := by simp [deafBehind, semEvents]
          rw [this]; exact hr'
      · exact .inl (own h (fun F j e => by cases e) (by simp) (fun _ _ _ _ h => h) hs)
  | w4 =>
    have hM' : TreeR P x0 (AtW4 P ty Wg Fin) rm ⟨tag, Deaf t 0⟩ a w := hM
    rcases hM'.cases with ⟨_, hs⟩ | ⟨_, hs⟩
    · left
      obtain ⟨_, hs⟩ := hs _ _ (Rel.refl _ _ _)
      obtain ⟨g', hst, hT⟩ := hs hwg.2
      obtain ⟨r', hr'⟩ := hT.rank
      exact main_act (m' := .acq) (rm' := r') h hi hst (STurn.refl _ _) (fun c _ => ⟨id, id⟩) hrd (by rw [deaf_rd]; exact hr') hwg Iff.rfl (fun e => by cases e) (fun F j e => by cases e) rfl (.inl (by simp [MSt.wt]))
    · exact .inl (own h (fun F j e => by cases e) (by simp) (fun _ _ _ _ h => h) hs)
  | acq =>
    have hM' : TreeR P x0 (AtAcq P Wg Fin) rm ⟨tag, Deaf t 0⟩ a w := hM
    rcases hM'.cases with ⟨_, hs⟩ | ⟨_, hs⟩
    · right
      obtain ⟨_, hd, g', hst, hT⟩ := hs _ _ (Rel.refl _ _ _)
      have hT := hT _ _ (Rel.refl _ _ _)
      have hrunT := runT_crowd_go (P := P) (sl := sl) hi hst
      have hrel : ∀ (j : Nat) (s : Sd), SD[j]? = some s → s.rel ≠ none ∧ ∃ b, gs[q0 + j]? = some b ∧ QuitsD P s.q (Deaf t (q0 + j)) b := by
        intro j s hj
        obtain ⟨b, hb, hS⟩ := h.snd j s hj
        have hg := hwg.1 s (List.mem_of_getElem? hj)
        unfold SOK at hS
        simp only [hg] at hS
        exact ⟨hS.1, b, hb, hS.2.2.2⟩
      have hda : ∀ k, Deaf (t ++ MemOp.ofEvents 0 a.frame.fn a.frame.place #[mk (.acquire (stA Wg))]) k = Deaf t k := by
        intro k
        by_cases hk : k = 0
        · subst hk
          rw [Deaf_own]
          exact deaf_keep fun x hx => by simp [mk] at hx; subst hx; simp
        · exact deaf_other hk ofEvents_g
      refine ⟨_, g', _, (reset ⟨tag, Deaf t 0⟩).tag, fun i => if i < q0 then qo i else ((SD[i - q0]?).map (·.q)).getD 0, _, q0 + SD.length, hrunT, ⟨by simp [h.size], by omega, ?_, fun i hi2 => ?_, (?_ : TI (fun l => Old l ∨ blk l = some Wg) _ _ _ _ _ _), ?_, ?_⟩, ?_, ?_⟩
      · intro i b h0 hb
        rw [hda]
        rw [Array.getElem?_setIfInBounds_ne (by omega), Array.getElem?_map] at hb
        obtain ⟨b', hb', rfl⟩ := Option.map_eq_some_iff.1 hb
        rcases h.who hb' with rfl | ⟨_, h1⟩ | ⟨j, s, rfl, hj⟩
        · omega
        · have hQ := h.old i b' h0 h1 hb'
          rw [woken_quitsD hQ]
          simp only [h1, if_true]; exact hQ
        · obtain ⟨_, b2, hb2, hQ⟩ := hrel j s hj
          rw [hb'] at hb2; cases hb2
          rw [woken_quitsD hQ]
          have : ¬ (q0 + j < q0) := by omega
          simp only [this, if_false, Nat.add_sub_cancel_left, hj, Option.map_some, Option.getD_some]
          exact hQ
      · rw [hda]; exact h.above i (by simpa using hi2)
      · have := h.ti.finish (tag' := (reset ⟨tag, Deaf t 0⟩).tag) hq (fun j S r hj => by
          rw [List.getElem?_map] at hj
          obtain ⟨s, hs, e2⟩ := Option.map_eq_some_iff.1 hj
          simp only [Sd.L, Prod.mk.injEq] at e2
          have := (hrel j s hs).1
          cases hr : s.rel with
          | none => exact absurd hr this
          | some r' => exact ⟨r', by rw [← e2.2, hr]⟩) hd h.wgt.2 h.wgt.1 h.hold (fun b _ => by
          cases hb : tag b with
          | sync => exact .inl ⟨rfl, by simp [reset, hb]⟩
          | _ => exact .inr ⟨by simp, by simp [reset, hb]⟩) a.frame.fn a.frame.place
        rw [List.length_map] at this
        exact this.start
      · rintro l (hl | hl)
        · obtain ⟨b, h1, h2, h3⟩ := h.hold l hl
          exact ⟨b, h1, h2, by simp [reset, h3]⟩
        · exact ⟨Wg, hl, h.wgt.2, by simp [reset, h.wgt.1]⟩
      · intro b _
        cases hb : tag b with
        | sync => exact .inr (.inl (by simp [reset, hb]))
        | _ => exact .inl (by simp [reset, hb])
      · rw [Array.getElem?_setIfInBounds_self_of_lt (by simp; exact hil)]
      · rw [hda]; exact hT
    · exact .inl (own h (fun F j e => by cases e) (by simp) (fun _ _ _ _ h => h) hs)
end
end Go.Proofs.Ytdajdembeacefaa.M

/-
  THE PHASE CARRIED OUT: 'Will': from every frame with main here the run ends well. A walk to 'Will' is one; the phase is one.
-/
import Derived.Test.YtdajdembeacefaaM
set_option linter.unusedSimpArgs false
set_option linter.unusedVariables false
namespace Go.Proofs.Ytdajdembeacefaa.M
open Go.Conc
open Go.ConcN (sumTo sumTo_upd upd_ne upd_same)
open Go.ConcR (KK wgBlock WgAt stA smA rd wr mk)

section
variable {P : Program} {Post : Value → World → Prop}

variable (P Post) in
def Ends (m : Machine) (t : Trace) : Prop := ∃ N last o w' t', runNT P (N + 1) m t = (.ended o w', t') ∧ runN P N m = .next last ∧ step P last = .ended o w' ∧ Good P Post last o w' t'

theorem Ends.step {m m' : Machine} {t : Trace} {u : Array MemOp} (hs : stepT P m = (.next m', u)) (h : Ends P Post m' (t ++ u)) : Ends P Post m t := by
  obtain ⟨N, last, o, w', t', h1, h2, h3, h4⟩ := h
  exact ⟨N + 1, last, o, w', t', by rw [runNT]; simp only [hs]; exact h1, by rw [runN]; simp only [Go.step, hs]; exact h2, h3, h4⟩

variable {ty : TypeId} {Wg e : Nat} {AnchW Fin : Gh → Goroutine → World → Prop} {Old : Loc → Prop} {q0 : Nat} {tag : Nat → Tag} {SD : List Sd} {m : MSt} {rm : Rk} {qo : Nat → Nat} {Sm : Nat}
  {gs : Array Goroutine} {w : World} {t : Trace} {sl : Option (Nat × Nat)}

/-- Nobody sleeps; somebody runs. -/
theorem PInv.awake (h : PInv P ty Wg e AnchW Fin Old q0 tag SD m rm qo Sm gs w t) : ∀ g ∈ gs, Go.Conc.awake g := by
  intro g hg
  obtain ⟨i, hi, rfl⟩ := Array.mem_iff_getElem.1 hg
  have hg' := Array.getElem?_eq_getElem hi
  rcases h.who hg' with rfl | ⟨h0, h1⟩ | ⟨j, s, rfl, hj⟩
  · obtain ⟨a, ha, hM⟩ := h.main
    rw [hg'] at ha; cases ha
    rcases hM.status with hr | ⟨F, j, rfl⟩ | ⟨_, hr, _⟩
    · exact awake_of (.inl hr)
    · obtain ⟨g, c, l, z, _, e, _⟩ := hM
      rw [e]; exact awake_of (.inr (.inl rfl))
    · exact awake_of (.inr (.inl hr))
  · exact awake_of ((h.old i _ h0 h1 hg').status.elim .inl fun x => .inr (.inr x))
  · obtain ⟨a, ha, hS⟩ := h.snd j s hj
    rw [hg'] at ha; cases ha
    cases hp : s.pk with
    | false => exact awake_of ((hS.status hp).elim .inl fun x => .inr (.inr x.1))
    | true =>
      unfold SOK at hS
      cases hst : s.st with
      | run l =>
        simp only [hst, hp] at hS
        obtain ⟨_, _, _, g, v, l', z, z2, _, e, _⟩ := hS
        rw [e]; exact awake_of (.inr (.inl rfl))
      | clo => simp only [hst] at hS; rw [hp] at hS; cases hS.2.2.2.1
      | _ => simp only [hst] at hS; rw [hp] at hS; cases hS.2.2.1
theorem PInv.live (h : PInv P ty Wg e AnchW Fin Old q0 tag SD m rm qo Sm gs w t) : ∃ (i : Nat) (g : Goroutine), gs[i]? = some g ∧ g.status = .running := by
  obtain ⟨a, ha, hM⟩ := h.main
  rcases hM.status with hr | ⟨F, j, rfl⟩ | ⟨rfl, _⟩
  · exact ⟨0, a, ha, hr⟩
  · obtain ⟨s, l, hj, hst, hp⟩ := h.recv F j rfl
    obtain ⟨b, hb, hS⟩ := h.snd j s hj
    rcases hS.status hp with hr | ⟨_, hg⟩
    · exact ⟨_, b, hb, hr⟩
    · rw [hst] at hg; cases hg
  · obtain ⟨s, hs, hng⟩ := h.blkd rfl
    obtain ⟨j, hj⟩ := List.getElem?_of_mem hs
    obtain ⟨b, hb, hS⟩ := h.snd j s hj
    rcases hS.status (h.pks (fun h => h) s hs) with hr | ⟨_, hg⟩
    · exact ⟨_, b, hb, hr⟩
    · exact absurd hg hng

/-- THE PHASE: from its every state the run comes to its end's frame. -/
theorem phase (hAn : ∀ O g w, AnchW O g w → Tree P x0 (AtW1 P ty Wg Fin AnchW) O g w)
    (hF : ∀ (gs : Array Goroutine) (g : Goroutine) (w : World) (sl : Option (Nat × Nat)) (t : Trace) (Old : Loc → Prop) (q0 : Nat) (tag : Nat → Tag) (qo : Nat → Nat), FInv P Old q0 tag qo gs w t → gs[0]? = some g → Tree P x0 Fin ⟨tag, Deaf t 0⟩ g w → Ends P Post (crowd gs w sl) t) :
    ∀ (μ : Mu) (SD : List Sd) (m : MSt) (rm : Rk) (qo : Nat → Nat) (Sm : Nat) (tag : Nat → Tag) (gs : Array Goroutine) (w : World) (sl : Option (Nat × Nat)) (t : Trace),
      PInv P ty Wg e AnchW Fin Old q0 tag SD m rm qo Sm gs w t → mu q0 m SD rm qo = μ → Ends P Post (crowd gs w sl) t := by
  intro μ
  induction μ using Lt.wf.induction with
  | _ μ ih =>
    intro SD m rm qo Sm tag gs w sl t h hμ
    obtain ⟨i, g, d, sl', hi, hg, hst⟩ := crowd_pick (P := P) (w := w) (sl := sl) h.awake h.live
    have h' := h.at d
    have go : ∀ {i : Nat}, Nx P ty Wg e AnchW Fin Old q0 SD m rm qo gs (w.at d) t sl' i → stepT P (crowd gs w sl) = runT P (crowd gs (w.at d) sl') i → Ends P Post (crowd gs w sl) t := by
      rintro i ⟨gs', w', u, tag', SD', m', rm', qo', Sm', h1, h2, h3⟩ hst
      exact Ends.step (hst.trans h1) (ih _ (hμ ▸ h3) SD' m' rm' qo' Sm' tag' gs' w' sl' (t ++ u) h2 rfl)
    rcases h'.who hi with rfl | ⟨h0, h1⟩ | ⟨j, s, rfl, hj⟩
    · rcases main_step (sl := sl') h' hAn hi hg with hn | ⟨gs', g', u, tag', qo', Old', q0', h1, h2, h3, h4⟩
      · exact go hn hst
      · exact Ends.step (hst.trans h1) (hF _ _ _ _ _ _ _ _ _ h2 h3 h4)
    · exact go (leaver_step h' h0 h1 hi hg) hst
    · exact go (sender_step h' hj hi hg) hst

/-! ### 'Will' -/
variable (P Post) in
def Will (O : Gh) (g : Goroutine) (w : World) : Prop :=
  ∀ (gs : Array Goroutine) (sl : Option (Nat × Nat)) (t : Trace) (Old : Loc → Prop) (q0 : Nat) (tag : Nat → Tag) (qo : Nat → Nat), FInv P Old q0 tag qo gs w t → gs[0]? = some g → O = ⟨tag, Deaf t 0⟩ → Ends P Post (crowd gs w sl) t

/-- A frame bears a step of main's own. -/
theorem FInv.own (h : FInv P Old q0 tag qo gs w t) {a a' : Goroutine} (hi : gs[0]? = some a) {O' : Gh} {w' : World} {es : Array Event} (hm : Moves x0 ⟨tag, Deaf t 0⟩ w O' w' es) (fn : FuncId) (pos : String) :
    FInv P Old q0 O'.tag qo ((gs.map (woken P a a' w')).setIfInBounds 0 a') w' (t ++ MemOp.ofEvents 0 fn pos es) := by
  refine ⟨by simp [h.size], h.hq, fun i b h0 hb => ?_, fun i hi2 => ?_, h.ti.add hm.size hm.tags (adds_of_moves hm fn pos) h.hq h.hold (.inl rfl) (fun k S r e hk => by simp at hk), fun l hl => ?_, fun b hb => ?_⟩
  · rw [Array.getElem?_setIfInBounds_ne (by omega), Array.getElem?_map] at hb
    obtain ⟨b', hb', rfl⟩ := Option.map_eq_some_iff.1 hb
    have hQ := h.old i b' h0 hb'
    rw [woken_quitsD hQ, deaf_other (i := 0) (by omega) ofEvents_g]
    exact hQ
  · have := h.size; have := h.hq
    rw [deaf_other (i := 0) (by simp at hi2; omega) ofEvents_g]; exact h.above i (by simpa using hi2)
  · obtain ⟨b, h1, h2, h3⟩ := h.hold l hl
    exact ⟨b, h1, Nat.lt_of_lt_of_le h2 hm.size, (hm.tags b h2).trans h3⟩
  · by_cases hlt : b < w.heap.size
    · rw [hm.tags b hlt]; exact h.tags b hlt
    · rcases hm.new b (by omega) hb with h1 | ⟨_, h1⟩
      · exact .inl h1
      · exact .inr (.inr h1)
theorem FInv.leave (h : FInv P Old q0 tag qo gs w t) {i k : Nat} {a' g : Goroutine} (h0 : 0 < i) (hi : i < gs.size) {es : Array Event} (hmu : ∀ x ∈ es, Event.mute x = true) (fn : FuncId) (pos : String)
    (hQ : QuitsD P k (deafBehind (Deaf t i) es) a') : FInv P Old q0 tag (Go.ConcN.upd qo i k) ((gs.map (woken P g a' w)).setIfInBounds i a') w (t ++ MemOp.ofEvents i fn pos es) := by
  have hsz := h.size
  refine ⟨by simp [h.size], h.hq, fun j b hj0 hb => ?_, fun j hj => ?_, h.ti.quiet (fun op hop => ?_) (fun op hop => ?_) (fun op hop => ?_) (fun op hop => ?_), h.hold, h.tags⟩
  · by_cases hji : j = i
    · subst hji
      rw [Array.getElem?_setIfInBounds_self_of_lt (by simpa using hi)] at hb
      cases hb
      rw [upd_same, Deaf_own]; exact hQ
    · rw [Array.getElem?_setIfInBounds_ne (Ne.symm hji), Array.getElem?_map] at hb
      obtain ⟨b', hb', rfl⟩ := Option.map_eq_some_iff.1 hb
      have hQ := h.old j b' hj0 hb'
      rw [woken_quitsD hQ, upd_ne qo k hji, deaf_other (i := i) hji ofEvents_g]
      exact hQ
  · rw [deaf_other (i := i) (by simp at hj; omega) ofEvents_g]; exact h.above j (by simpa using hj)
  · rw [ofEvents_g op hop]; omega
  · obtain ⟨x, hx, rfl⟩ := Go.Conc.mem_ofEvents hop; exact touch_mute (hmu x hx)
  · obtain ⟨x, hx, rfl⟩ := Go.Conc.mem_ofEvents hop; exact low_mute (hmu x hx) _
  · exact fun ad => (adds_sync (tag := tag) (n := w.heap.size) (y := i) (S := 0) (es := es) (fun e he => .inl (hmu e he)) fn pos).norel ad op hop
theorem FInv.at (h : FInv P Old q0 tag qo gs w t) (d : Nat) : FInv P Old q0 tag qo gs (w.at d) t := ⟨h.size, h.hq, h.old, h.above, h.ti, h.hold, h.tags⟩
theorem FInv.awake (h : FInv P Old q0 tag qo gs w t) {a : Goroutine} (h0 : gs[0]? = some a) (hr : a.status = .running) : ∀ g ∈ gs, Go.Conc.awake g := by
  intro g hg
  obtain ⟨i, hi, rfl⟩ := Array.mem_iff_getElem.1 hg
  have hg' := Array.getElem?_eq_getElem hi
  rcases Nat.eq_zero_or_pos i with rfl | hpos
  · rw [hg'] at h0; cases h0; exact awake_of (.inl hr)
  · exact awake_of ((h.old i _ hpos hg').status.elim .inl fun x => .inr (.inr x))

/-- A leaver's step, or main's turn. -/
theorem FInv.move (h : FInv P Old q0 tag qo gs w t) {a : Goroutine} (h0 : gs[0]? = some a) (hr : a.status = .running) (sl : Option (Nat × Nat)) :
    (∃ d sl', stepT P (crowd gs w sl) = runT P (crowd gs (w.at d) sl') 0) ∨
    (∃ gs' d sl' u qo', stepT P (crowd gs w sl) = (.next (crowd gs' (w.at d) sl'), u) ∧ FInv P Old q0 tag qo' gs' (w.at d) (t ++ u) ∧ gs'[0]? = some a ∧ Deaf (t ++ u) 0 = Deaf t 0 ∧ sumTo q0 qo' < sumTo q0 qo) := by
  obtain ⟨i, g, d, sl', hi, hg, hst⟩ := crowd_pick (P := P) (w := w) (sl := sl) (h.awake h0 hr) ⟨0, a, h0, hr⟩
  rcases Nat.eq_zero_or_pos i with rfl | hpos
  · exact .inl ⟨d, sl', hst⟩
  · right
    obtain ⟨q', hq', g', es, hmu, hstep, hQ⟩ := status_running_gone (h.old i g hpos hi) hg
    have hlt := (Array.getElem?_eq_some_iff.1 hi).1
    have hi0 : (i == 0) = false := by simp; omega
    have hrunT := runT_crowd_go (P := P) (sl := sl') (w := w.at d) hi (by rw [hi0]; exact hstep (w.at d))
    have hsz := h.size
    refine ⟨_, d, sl', _, _, hst.trans hrunT, (h.at d).leave hpos hlt hmu _ _ hQ, ?_, deaf_other (i := i) (by omega) ofEvents_g, ?_⟩
    · rw [Array.getElem?_setIfInBounds_ne (by omega), Array.getElem?_map, h0]
      simp [woken_run hr]
    · have := sumTo_upd qo q' id (show i < q0 by omega)
      have h1 : sumTo q0 (Go.ConcN.upd qo i q') + (q' + 1) = sumTo q0 qo + q' := by simpa [hq'] using this
      omega

/-- A WALK TO 'Will' IS A 'Will'. -/
theorem will_rank : ∀ (r : Rk) (n : Nat) (O : Gh) (g : Goroutine) (w : World) (gs : Array Goroutine) (sl : Option (Nat × Nat)) (t : Trace) (Old : Loc → Prop) (q0 : Nat) (tag : Nat → Tag) (qo : Nat → Nat),
    TreeR P x0 (Will P Post) r O g w → sumTo q0 qo = n → FInv P Old q0 tag qo gs w t → gs[0]? = some g → O = ⟨tag, Deaf t 0⟩ → Ends P Post (crowd gs w sl) t := by
  intro r
  induction r using Rk.wf.induction with
  | _ r ihr =>
    intro n
    induction n using Nat.strongRecOn with
    | _ n ihn =>
      intro O g w gs sl t Old q0 tag qo hT hn h h0 hO
      subst hO
      rcases hT.cases with ⟨_, hs⟩ | ⟨hr, hs⟩
      · exact hs _ _ (Rel.refl _ _ _) gs sl t Old q0 tag qo h h0 rfl
      · rcases h.move h0 hr sl with ⟨d, sl', hst⟩ | ⟨gs', d, sl', u, qo', hst, h1, h2, h3, h4⟩
        · obtain ⟨g', w', es, O', r', hr', hstep, hm, hT'⟩ := hs _ _ (Rel.at x0 _ w d)
          have hlt := (Array.getElem?_eq_some_iff.1 h0).1
          have hrunT := runT_crowd_go (P := P) (sl := sl') (w := w.at d) h0 hstep
          refine Ends.step (hst.trans hrunT) (ihr r' hr' _ O' g' w' _ sl' _ Old q0 O'.tag qo hT' rfl ((h.at d).own h0 hm g.frame.fn g.frame.place) (by simp [hlt]) ?_)
          rw [Deaf_own]; have := hm.deaf; simp only at this; rw [← this]
        · exact Ends.step hst (ihn _ (by rw [← hn]; exact h4) _ g _ gs' sl' _ Old q0 tag qo' (hT.rely (Rel.at x0 _ w d)) rfl h1 h2 (by rw [h3]))
theorem will_tree {O : Gh} {g : Goroutine} (h : Tree P x0 (Will P Post) O g w) : Will P Post O g w := by
  obtain ⟨r, hr⟩ := h.rank
  exact fun gs sl t Old q0 tag qo hF h0 hO => will_rank r _ O g w gs sl t Old q0 tag qo hr rfl hF h0 hO

/-- At the step that ends the run. -/
def AtEnd (P : Program) (Post : Value → World → Prop) (O : Gh) (g : Goroutine) (w : World) : Prop :=
  O.deaf = 0 ∧ g.status = .running ∧ ∀ w1, Rel x0 O w O w1 → ∃ v es, stepG P true g w1 = .ended (.done v) w1 es ∧ (∀ e ∈ es, Ev x0 O w1.heap.size e) ∧ (∀ e ∈ es, e.loc ≠ .mark .disable ∧ e.loc ≠ .mark .enable) ∧ Post v w1
theorem will_end {O : Gh} {g : Goroutine} (h : AtEnd P Post O g w) : Will P Post O g w := by
  intro gs sl t Old q0 tag qo hF h0 hO
  subst hO
  obtain ⟨hd, hr, hs⟩ := h
  generalize hn : sumTo q0 qo = n
  induction n using Nat.strongRecOn generalizing gs sl t qo w with
  | _ n ih =>
    rcases hF.move h0 hr sl with ⟨d, sl', hst⟩ | ⟨gs', d, sl', u, qo', hst, h1, h2, h3, h4⟩
    · obtain ⟨v, es, hend, hes, hnm, hpost⟩ := hs _ (Rel.at x0 _ w d)
      have hrunT := runT_many_ended (P := P) (sl := sl') (i := 0) h0 (show stepG P (0 == 0) g (w.at d) = _ from hend)
      have hm : Moves x0 ⟨tag, Deaf t 0⟩ (w.at d) ⟨tag, Deaf t 0⟩ (w.at d) es := Moves.still hes hnm
      have hti := ((hF.at d).own (a' := g) h0 hm g.frame.fn g.frame.place).ti
      have hq := hF.hq
      refine ⟨0, crowd gs w sl, .done v, w.at d, t ++ MemOp.ofEvents 0 g.frame.fn g.frame.place es, by simp [runNT, hst, hrunT], rfl, by simp [Go.step, hst, hrunT], v, rfl, hpost, hti.clean, fun i k hk hne hc => ?_, ⟨fun x hx => ?_, rfl⟩, fun j x hx hj => ?_⟩
      · have hkq : k < q0 := by
          have hk2 := hk
          unfold Trace.g? at hk2
          obtain ⟨op, hop, he⟩ := Option.map_eq_some_iff.1 hk2
          have := hti.gs i op hop
          rw [he] at this; simpa using this
        exact hti.over i k hk hkq hne hc
      · obtain ⟨j, hj⟩ := List.mem_iff_getElem?.1 hx
        rw [List.getElem?_drop] at hj
        exact ⟨_, (hF.old (1 + j) x (by omega) (by simpa [crowd] using hj)).leaves⟩
      · have hq := hF.old j x (by omega) hx
        refine ⟨qo j, ?_⟩
        have e : (t ++ MemOp.ofEvents 0 g.frame.fn g.frame.place es).deaf j (t ++ MemOp.ofEvents 0 g.frame.fn g.frame.place es).size = Deaf t j :=
          Deaf_other t (g := j) (g' := 0) (by omega) _ (fun op hop => by obtain ⟨e, _, rfl⟩ := Go.Conc.mem_ofEvents hop; rfl)
        rw [e]
        exact hq.hears _
    · refine Ends.step hst (ih _ (by rw [← hn]; exact h4) gs' sl' _ qo' h1 h2 (by rw [h3]; exact hd) (fun w1 r => ?_) rfl)
      rw [h3] at r ⊢
      exact hs w1 ((Rel.at x0 _ w d).trans r)

/-- THE PHASE AS A 'Will': main stands ahead of its first sender. -/
theorem will_phase {O : Gh} {g : Goroutine} {F : Nat} (hAn : ∀ O g w, AnchW O g w → Tree P x0 (AtW1 P ty Wg (Will P Post) AnchW) O g w)
    (hWg : O.tag Wg = .fresh) (he : O.tag e = .fresh) (hne : e ≠ Wg) (hW : WgAt ty Wg w 0 0) (ho : Open w e)
    (hT : ∀ O1, (∀ b, b ≠ Wg → b ≠ e → O1.tag b = O.tag b) → O1.tag Wg = .sync → O1.tag e = .sync → O1.deaf = O.deaf → MRun P ty Wg e AnchW F 0 [] O1 g w) : Will P Post O g w := by
  intro gs sl t Old q0 tag qo hF h0 hO
  subst hO
  simp only at hWg he
  have hWl : Wg < w.heap.size := (Array.getElem?_eq_some_iff.1 hW).1
  have hel := ho.lt
  let tag' : Nat → Tag := fun b => if b = Wg then .sync else if b = e then .sync else tag b
  have ht1 : tag' Wg = .sync := by simp [tag']
  have ht2 : tag' e = .sync := by simp [tag']
  have ht3 : ∀ b, b ≠ Wg → b ≠ e → tag' b = tag b := fun b h1 h2 => by simp [tag', h1, h2]
  have ht4 : ∀ b, tag b = .sync → tag' b = .sync := fun b hb => by
    by_cases h1 : b = Wg
    · rw [h1]; exact ht1
    · by_cases h2 : b = e
      · rw [h2]; exact ht2
      · rw [ht3 b h1 h2]; exact hb
  have hti : TI Old Wg q0 w.heap.size tag' [] t := (hF.ti.retag (tag' := tag') fun b _ => by
    by_cases h1 : b = Wg
    · subst h1; exact .inr ⟨hWg, ht1⟩
    · by_cases h2 : b = e
      · subst h2; exact .inr ⟨he, ht2⟩
      · exact .inl (ht3 b h1 h2)).start
  have hM := hT ⟨tag', Deaf t 0⟩ ht3 ht1 ht2 rfl
  obtain ⟨F', rfl, r, hr⟩ := mrun hM
  have hsz := hF.size
  have hPI : PInv P ty Wg e AnchW (Will P Post) Old q0 tag' [] (.A F') r qo 0 gs w t := by
    refine ⟨by simp [hsz], hF.hq, by simp, fun i a h0 hi ha => hF.old i a h0 ha, hF.above, ⟨g, h0, g, g.offers, rfl, hr.running fun _ _ _ hh => MStop.running hh, hr⟩, (fun j s hj => by simp at hj), by simpa using hti, fun l hl => ?_, ⟨ht1, hWl⟩, ⟨ht2, hne⟩, (fun j s hj => by simp at hj), (fun j k s s' hj => by simp at hj), Nat.zero_le _, fun b hb y hy => ?_, ⟨fun _ => ho, fun h => absurd trivial h⟩, ⟨by simpa [al] using hW, fun s hs => by simp at hs⟩, fun h => absurd trivial h, (fun e => by cases e), fun F j e => by cases e⟩
    · obtain ⟨b, h1, h2, h3⟩ := hF.hold l hl
      exact ⟨b, h1, h2, ht4 b h3⟩
    · have hq := hF.hq
      intro hy2
      by_cases h1 : b = Wg
      · rw [h1, ht1] at hy2; cases hy2
      · by_cases h2 : b = e
        · rw [h2, ht2] at hy2; cases hy2
        · rw [ht3 b h1 h2] at hy2
          rcases hF.tags b hb with h3 | h3 | h3 <;> rw [h3] at hy2
          · cases hy2; simp at hy; omega
          · cases hy2
          · cases hy2
  exact phase hAn (fun gs g w sl t Old q0 tag qo h1 h2 h3 => will_tree h3 gs sl t Old q0 tag qo h1 h2 rfl) _ [] (.A F') r qo 0 tag' gs w sl t hPI rfl
end
end Go.Proofs.Ytdajdembeacefaa.M

/-
  THE PHASE, 4: each step of a sender.
-/
import Derived.Test.YtdajdembeacefaaJ
set_option linter.unusedSimpArgs false
set_option linter.unusedVariables false
namespace Go.Proofs.Ytdajdembeacefaa.M
open Go.Conc
open Go.ConcR (KK wgBlock WgAt stA smA rd wr mk)

theorem Slip.cases {P : Program} {St : Nat → Goroutine → Prop} {n d : Nat} {g : Goroutine} (h : Slip P St n d g) :
    St d g ∨ ∃ k, n = k + 1 ∧ ∃ g' es, (∀ e ∈ es, Event.mute e = true) ∧ (∀ w, stepG P false g w = .go g' w es) ∧ Slip P St k (deafBehind d es) g' := by
  cases n with
  | zero => exact .inl h
  | succ k => exact h.imp id fun ⟨_, g', es, h⟩ => ⟨k, rfl, g', es, h⟩
theorem quits_running {P : Program} {q d : Nat} {g : Goroutine} (h : QuitsD P q d g) (hd : d ≠ 0) : g.status = .running := by
  cases q with
  | zero => exact absurd h.2 hd
  | succ k => exact h.elim (fun h => absurd h.2 hd) fun h => h.1

section
variable {SD : List Sd}
theorem al_le : al SD ≤ SD.length := by
  unfold al
  induction SD with
  | nil => simp
  | cons x l ih =>
    have : x.st.al ≤ 1 := by cases x.st <;> simp [Stage.al]
    simp at ih ⊢; omega
theorem al_pos (h : 0 < al SD) : ∃ s ∈ SD, s.st ≠ .gone := by
  unfold al at h
  induction SD with
  | nil => simp at h
  | cons x l ih =>
    by_cases hx : x.st = .gone
    · have : x.st.al = 0 := by rw [hx]; rfl
      simp [this] at h
      obtain ⟨s, h1, h2⟩ := ih (by simpa using h)
      exact ⟨s, List.mem_cons_of_mem _ h1, h2⟩
    · exact ⟨x, List.mem_cons_self .., hx⟩
theorem al_zero (h : al SD = 0) (hp : ∀ s ∈ SD, s.st.plain) : ∀ s ∈ SD, s.st = .gone := by
  unfold al at h
  induction SD with
  | nil => intro s hs; simp at hs
  | cons x l ih =>
    simp at h
    intro s hs
    rcases List.mem_cons.1 hs with rfl | hs
    · have hp := hp s (List.mem_cons_self ..)
      have h := h.1
      cases hst : s.st <;> simp_all [Stage.al, Stage.plain]
    · exact ih (by simpa using h.2) (fun s hs => hp s (List.mem_cons_of_mem _ hs)) s hs
end

section
variable {ty : TypeId} {Wg : Nat} {SD : List Sd} {m : MSt} {w : World} {j : Nat} {s : Sd}

theorem plain_set {s' : Sd} (hj : SD[j]? = some s) (hs : s'.st.plain) (h : ∀ s ∈ SD, s.st.plain) : ∀ s2 ∈ SD.set j s', s2.st.plain := by
  intro s2 h2
  obtain ⟨k, hk⟩ := List.getElem?_of_mem h2
  rcases get_set hj hk with ⟨rfl, rfl⟩ | ⟨_, h3⟩
  · exact hs
  · exact h s2 (List.mem_of_getElem? h3)

/-- A sender stands ahead of its count. -/
theorem wg_d1 (h : WgOK ty Wg m SD w) (hj : SD[j]? = some s) (hst : s.st = .add) (hlen : SD.length ≤ 2147483646) : ∃ v wt : Nat, wt ≤ 1 ∧ v < 2147483647 ∧ WgAt ty Wg w ((v + 1) * KK + wt) 0 ∧
    ((v = 0 ∧ wt = 1) → ∀ (s' : Sd) (w' : World), s'.st = .d2 → WgAt ty Wg w' (v * KK + wt) 0 → WgOK ty Wg m (SD.set j s') w') ∧
    (¬ (v = 0 ∧ wt = 1) → ∀ (s' : Sd) (w' : World), s'.st = .gone → WgAt ty Wg w' (v * KK + wt) 0 → WgOK ty Wg m (SD.set j s') w' ∧ (m = .w3 true → ∃ s2 ∈ SD.set j s', s2.st ≠ .gone)) := by
  have hal := al_le (SD := SD)
  have hal' : ∀ s' : Sd, s'.st.al = 0 → al (SD.set j s') + 1 = al SD := by
    intro s' h0
    have := al_set (s' := s') hj
    have h1 : s.st.al = 1 := by rw [hst]; rfl
    omega
  have h1 : 1 ≤ al SD := by have := hal' { s with st := .gone } rfl; omega
  have hmem := List.mem_of_getElem? hj
  unfold WgOK at h
  have early : ∀ (hh : WgAt ty Wg w ((al SD : Nat) * KK) 0 ∧ ∀ s ∈ SD, s.st.plain), ∃ v wt : Nat, wt ≤ 1 ∧ v < 2147483647 ∧ WgAt ty Wg w ((v + 1) * KK + wt) 0 ∧ wt = 0 ∧ (∀ (s' : Sd) (w' : World), s'.st = .gone → WgAt ty Wg w' (v * KK + wt) 0 → WgAt ty Wg w' ((al (SD.set j s') : Nat) * KK) 0 ∧ ∀ s ∈ SD.set j s', s.st.plain) := by
    rintro ⟨ha, hp⟩
    refine ⟨al SD - 1, 0, by omega, by omega, ?_, rfl, fun s' w' hs' hw => ⟨?_, plain_set hj (by rw [hs']; trivial) hp⟩⟩
    · have : (((al SD - 1 : Nat) : Int) + 1) * KK + ((0 : Nat) : Int) = (al SD : Nat) * KK := by simp only [KK]; omega
      rw [this]; exact ha
    · have e := hal' s' (by rw [hs']; rfl)
      have : ((al SD - 1 : Nat) : Int) * KK + ((0 : Nat) : Int) = ((al (SD.set j s') : Nat) : Int) * KK := by simp only [KK]; omega
      rw [← this]; exact hw
  cases m with
  | w3 b =>
    simp only at h
    rcases h with ⟨h2, h3, h4⟩ | ⟨k, s2, h2, h3, h4⟩ | ⟨h2, _⟩
    · refine ⟨al SD - 1, 1, by omega, by omega, ?_, fun hv s' w' hs' hw => ?_, fun hv s' w' hs' hw => ?_⟩
      · have : (((al SD - 1 : Nat) : Int) + 1) * KK + ((1 : Nat) : Int) = (al SD : Nat) * KK + 1 := by simp only [KK]; omega
        rw [this]; exact h3
      · have e := hal' s' (by rw [hs']; rfl)
        have h0 := al_zero (SD := SD.set j { s with st := .gone }) (by have := hal' { s with st := .gone } rfl; omega) (plain_set hj trivial h4)
        have hlt := (List.getElem?_eq_some_iff.1 hj).1
        refine .inr (.inl ⟨j, s', by simp [List.getElem?_set, hlt], fun i s3 hi h5 => ?_, .inl ⟨.inl hs', ?_⟩⟩)
        · rcases get_set hj h5 with ⟨rfl, _⟩ | ⟨_, h6⟩
          · exact absurd rfl hi
          · exact h0 s3 (List.mem_of_getElem? (i := i) (by rw [List.getElem?_set]; simp [Ne.symm hi, h6]))
        · rw [hv.1] at hw; simpa using hw
      · have e := hal' s' (by rw [hs']; rfl)
        have hpos : 0 < al (SD.set j s') := by omega
        refine ⟨.inl ⟨hpos, ?_, plain_set hj (by rw [hs']; trivial) h4⟩, fun _ => al_pos hpos⟩
        have : ((al SD - 1 : Nat) : Int) * KK + ((1 : Nat) : Int) = ((al (SD.set j s') : Nat) : Int) * KK + 1 := by simp only [KK]; omega
        rw [← this]; exact hw
    · exfalso
      by_cases hk : j = k
      · subst hk; rw [hj] at h2; cases h2
        rw [hst] at h4; rcases h4 with ⟨h5 | h5, _⟩ | ⟨h5, _⟩ <;> cases h5
      · have := h3 j s hk hj; rw [hst] at this; cases this
    · have := h2 s hmem; rw [hst] at this; cases this
  | w4 => have := h.1 s hmem; rw [hst] at this; cases this
  | acq => have := h.1 s hmem; rw [hst] at this; cases this
  | go F =>
    simp only at h
    refine ⟨al SD, 0, by omega, by omega, ?_, fun hv => by omega, fun hv s' w' hs' hw => ⟨⟨?_, plain_set hj (by rw [hs']; trivial) h.2⟩, fun e => by cases e⟩⟩
    · have : ((al SD : Nat) + 1 : Int) * KK + ((0 : Nat) : Int) = ((al SD + 1 : Nat) : Int) * KK := by simp only [KK]; omega
      rw [this]; exact h.1
    · have e := hal' s' (by rw [hs']; rfl)
      have : ((al SD : Nat) : Int) * KK + ((0 : Nat) : Int) = ((al (SD.set j s') + 1 : Nat) : Int) * KK := by simp only [KK]; omega
      rw [← this]; exact hw
  | A F => obtain ⟨v, wt, e1, e2, e3, e4, e5⟩ := early h; exact ⟨v, wt, e1, e2, e3, fun hv => by omega, fun hv s' w' hs' hw => ⟨e5 s' w' hs' hw, fun e => by cases e⟩⟩
  | P F k => obtain ⟨v, wt, e1, e2, e3, e4, e5⟩ := early h; exact ⟨v, wt, e1, e2, e3, fun hv => by omega, fun hv s' w' hs' hw => ⟨e5 s' w' hs' hw, fun e => by cases e⟩⟩
  | anch => obtain ⟨v, wt, e1, e2, e3, e4, e5⟩ := early h; exact ⟨v, wt, e1, e2, e3, fun hv => by omega, fun hv s' w' hs' hw => ⟨e5 s' w' hs' hw, fun e => by cases e⟩⟩
  | w2 vs => obtain ⟨v, wt, e1, e2, e3, e4, e5⟩ := early h; exact ⟨v, wt, e1, e2, e3, fun hv => by omega, fun hv s' w' hs' hw => ⟨e5 s' w' hs' hw, fun e => by cases e⟩⟩

/-- A sender stands between its count and its end. -/
theorem wg_d (h : WgOK ty Wg m SD w) (hj : SD[j]? = some s) (hst : ¬ s.st.plain) : (∃ b, m = .w3 b) ∧ (∀ (k : Nat) (s' : Sd), k ≠ j → SD[k]? = some s' → s'.st = .gone) ∧ (((s.st = .d2 ∨ s.st = .d3) ∧ WgAt ty Wg w 1 0) ∨ (s.st = .d4 ∧ WgAt ty Wg w 0 0)) := by
  have hmem := List.mem_of_getElem? hj
  have hng : s.st ≠ .gone := fun e => hst (by rw [e]; trivial)
  unfold WgOK at h
  cases m with
  | w3 b =>
    simp only at h
    rcases h with ⟨_, _, h3⟩ | ⟨k, s2, h2, h3, h4⟩ | ⟨h2, _⟩
    · exact absurd (h3 s hmem) hst
    · by_cases hk : j = k
      · subst hk; rw [hj] at h2; cases h2
        exact ⟨⟨b, rfl⟩, fun i s' hi h5 => h3 i s' hi h5, h4⟩
      · exact absurd (h3 j s hk hj) hng
    · exact absurd (h2 s hmem) hng
  | w4 => exact absurd (h.1 s hmem) hng
  | acq => exact absurd (h.1 s hmem) hng
  | _ => exact absurd (h.2 s hmem) hst
theorem wg_d_set {s' : Sd} {w' : World} (h : WgOK ty Wg m SD w) (hj : SD[j]? = some s) (hst : ¬ s.st.plain) (hs' : ((s'.st = .d2 ∨ s'.st = .d3) ∧ WgAt ty Wg w' 1 0) ∨ (s'.st = .d4 ∧ WgAt ty Wg w' 0 0) ∨ (s'.st = .gone ∧ WgAt ty Wg w' 0 1)) : WgOK ty Wg m (SD.set j s') w' := by
  obtain ⟨⟨b, rfl⟩, ho, _⟩ := wg_d h hj hst
  have hlt := (List.getElem?_eq_some_iff.1 hj).1
  have ho' : ∀ (k : Nat) (s2 : Sd), k ≠ j → (SD.set j s')[k]? = some s2 → s2.st = .gone := fun k s2 hk h2 => by
    rcases get_set hj h2 with ⟨rfl, _⟩ | ⟨_, h6⟩
    · exact absurd rfl hk
    · exact ho k s2 hk h6
  rcases hs' with h1 | h1 | ⟨h1, h2⟩
  · exact .inr (.inl ⟨j, s', by simp [List.getElem?_set, hlt], ho', .inl h1⟩)
  · exact .inr (.inl ⟨j, s', by simp [List.getElem?_set, hlt], ho', .inr h1⟩)
  · refine .inr (.inr ⟨fun s2 h3 => ?_, h2⟩)
    obtain ⟨k, hk⟩ := List.getElem?_of_mem h3
    rcases get_set hj hk with ⟨rfl, rfl⟩ | ⟨hne, h6⟩
    · exact h1
    · exact ho k s2 hne h6
end

section
variable {P : Program} {ty : TypeId} {Wg e : Nat} {AnchW Fin : Gh → Goroutine → World → Prop} {Old : Loc → Prop} {q0 : Nat} {tag : Nat → Tag} {SD : List Sd} {m : MSt} {rm : Rk} {qo : Nat → Nat} {Sm : Nat}
  {gs : Array Goroutine} {w : World} {t : Trace} {sl : Option (Nat × Nat)}

/-- A deaf sender's atomic accesses of the group's block. -/
theorem ti_group (h : PInv P ty Wg e AnchW Fin Old q0 tag SD m rm qo Sm gs w t) {j : Nat} {s : Sd} (hj : SD[j]? = some s) (hrel : s.rel ≠ none) (fn : FuncId) (pos : String) {es : Array Event}
    (hes : ∀ x ∈ es, x.mute = true ∨ ∃ a wr, x = ⟨.cell a, wr, true⟩ ∧ a.block = Wg) (hd : ∀ k, k ≤ es.size → 0 < deafBehind (Deaf t (q0 + j)) (es.extract 0 k)) :
    TI Old Wg q0 w.heap.size tag (SD.map Sd.L) (t ++ MemOp.ofEvents (q0 + j) fn pos es) := by
  obtain ⟨r, hr⟩ : ∃ r, s.rel = some r := by cases hh : s.rel with | none => exact absurd hh hrel | some r => exact ⟨r, rfl⟩
  have hL : (SD.map Sd.L)[j]? = some (s.S, some r) := by rw [List.getElem?_map, hj]; simp [Sd.L, hr]
  refine h.ti.add (Nat.le_refl _) (fun _ _ => rfl) (S := s.S) (adds_sync (fun x hx => (hes x hx).imp id fun ⟨a, b, h1, h2⟩ => .inl ⟨a, b, h1, by rw [h2]; exact h.wgt.2, by rw [h2]; exact h.wgt.1⟩) fn pos) h.hq h.hold (.inr ⟨j, _, rfl, hL⟩) (fun k S r' ek hk => ?_)
  obtain rfl : j = k := by omega
  rw [hL] at hk; cases hk
  exact (h.ti.rel j s.S r hL).own fn pos hd fun x hx => (hes x hx).imp touch_mute id

theorem deaf_pos {d : Nat} (hd : 0 < d) {es : Array Event} (hes : ∀ x ∈ es, x.loc ≠ .mark .disable ∧ x.loc ≠ .mark .enable) (k : Nat) : 0 < deafBehind d (es.extract 0 k) := by
  rw [deaf_keep fun x hx => hes x ?_]
  · exact hd
  · obtain ⟨i, hi, e⟩ := Array.mem_iff_getElem.1 hx
    rw [Array.getElem_extract] at e
    rw [← e]; exact Array.getElem_mem _

theorem shutOf {w : World} {c s r : Nat} {tm : Bool} (h : w.heap[c]? = some (.chan 0 #[] false s r tm)) : Shut (w.shut c s r tm) c := by
  have hlt := (Array.getElem?_eq_some_iff.1 h).1
  exact ⟨s, r, tm, by simp [World.shut, hlt]⟩
theorem shut_ne {w : World} {c k s r : Nat} {tm : Bool} (h : k ≠ c) : (w.shut c s r tm).heap[k]? = w.heap[k]? := by
  simp [World.shut, Array.getElem?_setIfInBounds_ne (Ne.symm h)]
theorem deaf_group (d : Nat) (a b : Addr) : deafBehind d #[rd a, wr b] = d := deaf_keep fun x hx => by simp [rd, wr] at hx; rcases hx with rfl | rfl <;> simp
theorem deaf_rd (d : Nat) (a : Addr) : deafBehind d #[rd a] = d := deaf_keep fun x hx => by simp [rd] at hx; subst hx; simp
theorem deaf_wr (d : Nat) (a : Addr) : deafBehind d #[wr a] = d := deaf_keep fun x hx => by simp [wr] at hx; subst hx; simp
theorem deaf_close (d c : Nat) : deafBehind d (closeEv c) = d := deaf_keep fun x hx => by simp [closeEv] at hx; rcases hx with rfl | rfl <;> simp
theorem deaf_sem {a : Addr} : deafBehind 1 (semEvents a) = 1 := by simp [deafBehind, semEvents]

theorem status_running_gone {n d : Nat} {a : Goroutine} (h : QuitsD P n d a) (hr : a.status = .running) : ∃ q, n = q + 1 ∧ ∃ g' es, (∀ e ∈ es, Event.mute e = true) ∧ (∀ w, stepG P false a w = .go g' w es) ∧ QuitsD P q (deafBehind d es) g' := by
  cases hq : n with
  | zero => rw [hq] at h; rw [h.1] at hr; cases hr
  | succ q =>
    rw [hq] at h
    rcases h with h | ⟨_, g', es, h⟩
    · rw [h.1] at hr; cases hr
    · exact ⟨q, rfl, g', es, h⟩

/-- The steps behind the close. -/
theorem sender_late (h : PInv P ty Wg e AnchW Fin Old q0 tag SD m rm qo Sm gs w t) {j : Nat} {s : Sd} {a : Goroutine} (hj : SD[j]? = some s) (hi : gs[q0 + j]? = some a) (hrun : a.status = .running)
    (hS : SOK P ty Wg e ⟨q0 + j, s.S⟩ ⟨tag, Deaf t (q0 + j)⟩ w s a) (hnr : ∀ l, s.st ≠ .run l) : Nx P ty Wg e AnchW Fin Old q0 SD m rm qo gs w t sl (q0 + j) := by
  have hS0 := hS
  have noP : ∀ F, m = .P F j → False := fun F em => by
    obtain ⟨s2, l, h1, h2, _⟩ := h.recv F j em
    rw [hj] at h1; cases h1
    exact hnr l h2
  have hL : ∀ s' : Sd, s'.S = s.S → s'.rel = s.rel → (SD.set j s').map Sd.L = SD.map Sd.L := fun s' h1 h2 => map_set_same _ hj (by simp [Sd.L, h1, h2])
  unfold SOK at hS
  cases hst : s.st with
  | run l => exact absurd hst (hnr l)
  | clo =>
    simp only [hst] at hS
    obtain ⟨h1, h2, h3, h4, h5⟩ := hS
    rcases h5.cases with ⟨_, hs⟩ | ⟨_, hs⟩
    · obtain ⟨_, hd, g', hstep, q', hq'⟩ := hs _ _ (Rel.refl _ _ _)
      refine sender_act (s' := ⟨s.c, s.S, some t.size, .add, q', false, .z⟩) h hj hi (hstep w) (STurn.refl _ _) (fun c _ _ => ⟨id, id⟩) rfl rfl (.inl (by rw [hst]; rfl)) rfl ?_ (h.wg.keep hj (.inr ⟨by rw [hst]; rfl, rfl⟩) rfl) (.inr ⟨by rw [hst]; simp [Stage.wt], by rw [hst]; rfl⟩) (fun _ => .inl ⟨_, mem_set_self hj, by simp⟩) (fun F em => (noP F em).elim) ?_
      · rw [List.map_set]
        exact h.ti.release (by rw [List.getElem?_map, hj]; simp [Sd.L, h1]) hd h.wgt.2 _ _
      · refine ⟨by simp, h3, rfl, ?_⟩
        have hd : Deaf t (q0 + j) = 0 := hd
        simp only [hd]
        have : deafBehind 0 #[mk (.releaseMerge (stA Wg))] = 0 := deaf_keep fun x hx => by simp [mk] at hx; subst hx; simp
        rw [this]; exact hq'
    · obtain ⟨g', w', es, O', r', hr, hstep, hm, hT⟩ := hs _ _ (Rel.refl _ _ _)
      exact sender_own h hj hi (by have : (q0 + j == 0) = false := by simp; have := h.hq; omega
                                   simpa [this] using hstep) hm hr h1 h4 (by rw [hst]; simp) fun ho hs => by
        unfold SOK; simp only [hst]; exact ⟨h1, h2, hs h3, h4, hT⟩
  | add =>
    simp only [hst] at hS
    obtain ⟨h1, h3, h4, h5⟩ := hS
    rcases h5.cases with ⟨_, hd, hs⟩ | ⟨k, hk, g', es, hmu, hstep, hq'⟩
    · obtain ⟨v, wt, hwt, hv, hwg, ha, hb⟩ := wg_d1 h.wg hj hst h.len
      obtain ⟨g', hstep, hA, hB⟩ := hs w v wt hwt hv hwg
      have hti : TI Old Wg q0 w.heap.size tag (SD.map Sd.L) (t ++ MemOp.ofEvents (q0 + j) a.frame.fn a.frame.place #[rd (stA Wg), wr (stA Wg)]) :=
        ti_group h hj h1 _ _ (fun x hx => by simp [rd, wr] at hx; rcases hx with rfl | rfl <;> exact .inr ⟨_, _, rfl, rfl⟩) fun k _ => deaf_pos (by omega) (fun x hx => by simp [rd, wr] at hx; rcases hx with rfl | rfl <;> simp) k
      have hwt' := STurn.aside (c := Wg) h.wgt.1 (aside_setCell w (stA Wg) (.int .u64 (v * KK + wt))) (shape_setCell w _ _)
      have hch : ∀ c, tag c = .sync → c ≠ s.c → (Open w c → Open (w.setCell (stA Wg) (.int .u64 (v * KK + wt))) c) ∧ (Shut w c → Shut (w.setCell (stA Wg) (.int .u64 (v * KK + wt))) c) := fun c _ _ => by
        by_cases hcW : c = Wg
        · subst hcW
          refine ⟨fun ⟨_, _, _, ho⟩ => ?_, fun ⟨_, _, _, ho⟩ => ?_⟩ <;> (have := hwg; unfold WgAt wgBlock at this; rw [ho] at this; cases this)
        · exact open_of fun _ => (aside_setCell w (stA Wg) _).block c hcW
      have hsh : Shut (w.setCell (stA Wg) (.int .u64 (v * KK + wt))) s.c := (open_of (w := w) (w' := w.setCell (stA Wg) (.int .u64 (v * KK + wt))) fun _ => (aside_setCell w (stA Wg) _).block s.c (h.chans j s hj).2.2.1).2 h3
      by_cases hz : v = 0 ∧ wt = 1
      · obtain ⟨q', hq'⟩ := hA hz
        refine sender_act (s' := ⟨s.c, s.S, s.rel, .d2, q', false, .z⟩) h hj hi hstep hwt' hch rfl rfl (.inl (by rw [hst]; rfl)) rfl (by rw [map_set_same Sd.L hj]; exact hti; rfl) (ha hz _ _ rfl (hwg.setSt _)) (.inl (by rw [hst]; simp [Stage.wt])) (fun _ => .inl ⟨_, mem_set_self hj, by simp⟩) (fun F em => (noP F em).elim) ⟨h1, hsh, rfl, ?_⟩
        rw [hd, deaf_group]; exact hq'
      · obtain ⟨q', hq'⟩ := hB hz
        have hb' := hb hz ⟨s.c, s.S, s.rel, .gone, q', false, .z⟩ _ rfl (hwg.setSt _)
        refine sender_act (s' := ⟨s.c, s.S, s.rel, .gone, q', false, .z⟩) h hj hi hstep hwt' hch rfl rfl (.inl (by rw [hst]; rfl)) rfl (by rw [map_set_same Sd.L hj]; exact hti; rfl) hb'.1 (.inl (by rw [hst]; simp [Stage.wt])) (fun em => .inl (hb'.2 em)) (fun F em => (noP F em).elim) ⟨h1, hsh, rfl, ?_⟩
        rw [hd, deaf_group]; exact hq'
    · exact sender_slip (q' := k) h hj hi hstep hmu (by omega) h4 hnr (by unfold SOK; simp only [hst]; exact ⟨h1, h3, h4, hq'⟩)
  | d2 =>
    simp only [hst] at hS
    obtain ⟨h1, h3, h4, h5⟩ := hS
    rcases h5.cases with ⟨_, hd, hs⟩ | ⟨k, hk, g', es, hmu, hstep, hq'⟩
    · obtain ⟨⟨b, rfl⟩, ho, hw⟩ := wg_d h.wg hj (by rw [hst]; exact id)
      have hwg : WgAt ty Wg w 1 0 := by
        rcases hw with ⟨_, h⟩ | ⟨h, _⟩
        · exact h
        · rw [hst] at h; cases h
      obtain ⟨g', hstep, q', hq'⟩ := hs w hwg
      have hti : TI Old Wg q0 w.heap.size tag (SD.map Sd.L) (t ++ MemOp.ofEvents (q0 + j) a.frame.fn a.frame.place #[rd (stA Wg)]) :=
        ti_group h hj h1 _ _ (fun x hx => by simp [rd] at hx; subst hx; exact .inr ⟨_, _, rfl, rfl⟩) fun k _ => deaf_pos (by omega) (fun x hx => by simp [rd] at hx; subst hx; simp) k
      refine sender_act (s' := ⟨s.c, s.S, s.rel, .d3, q', false, .z⟩) h hj hi hstep (STurn.refl _ _) (fun c _ _ => ⟨id, id⟩) rfl rfl (.inl (by rw [hst]; rfl)) rfl (by rw [map_set_same Sd.L hj]; exact hti; rfl) (wg_d_set h.wg hj (by rw [hst]; exact id) (.inl ⟨.inr rfl, hwg⟩)) (.inr ⟨by rw [hst]; simp [Stage.wt], by rw [hst]; rfl⟩) (fun _ => .inl ⟨_, mem_set_self hj, by simp⟩) (fun F em => (noP F em).elim) ⟨h1, h3, rfl, ?_⟩
      rw [hd, deaf_rd]; exact hq'
    · exact sender_slip (q' := k) h hj hi hstep hmu (by omega) h4 hnr (by unfold SOK; simp only [hst]; exact ⟨h1, h3, h4, hq'⟩)
  | d3 =>
    simp only [hst] at hS
    obtain ⟨h1, h3, h4, h5⟩ := hS
    rcases h5.cases with ⟨_, hd, hs⟩ | ⟨k, hk, g', es, hmu, hstep, hq'⟩
    · obtain ⟨⟨b, rfl⟩, ho, hw⟩ := wg_d h.wg hj (by rw [hst]; exact id)
      have hwg : WgAt ty Wg w 1 0 := by
        rcases hw with ⟨_, h⟩ | ⟨h, _⟩
        · exact h
        · rw [hst] at h; cases h
      obtain ⟨g', hstep, q', hq'⟩ := hs w hwg
      have hti : TI Old Wg q0 w.heap.size tag (SD.map Sd.L) (t ++ MemOp.ofEvents (q0 + j) a.frame.fn a.frame.place #[wr (stA Wg)]) :=
        ti_group h hj h1 _ _ (fun x hx => by simp [wr] at hx; subst hx; exact .inr ⟨_, _, rfl, rfl⟩) fun k _ => deaf_pos (by omega) (fun x hx => by simp [wr] at hx; subst hx; simp) k
      have hwt' := STurn.aside (c := Wg) h.wgt.1 (aside_setCell w (stA Wg) (.int .u64 0)) (shape_setCell w _ _)
      have hch : ∀ c, tag c = .sync → c ≠ s.c → (Open w c → Open (w.setCell (stA Wg) (.int .u64 0)) c) ∧ (Shut w c → Shut (w.setCell (stA Wg) (.int .u64 0)) c) := fun c _ _ => by
        by_cases hcW : c = Wg
        · subst hcW
          refine ⟨fun ⟨_, _, _, ho⟩ => ?_, fun ⟨_, _, _, ho⟩ => ?_⟩ <;> (have := hwg; unfold WgAt wgBlock at this; rw [ho] at this; cases this)
        · exact open_of fun _ => (aside_setCell w (stA Wg) _).block c hcW
      have hsh : Shut (w.setCell (stA Wg) (.int .u64 0)) s.c := (open_of (w := w) (w' := w.setCell (stA Wg) (.int .u64 0)) fun _ => (aside_setCell w (stA Wg) _).block s.c (h.chans j s hj).2.2.1).2 h3
      refine sender_act (s' := ⟨s.c, s.S, s.rel, .d4, q', false, .z⟩) h hj hi hstep hwt' hch rfl rfl (.inl (by rw [hst]; rfl)) rfl (by rw [map_set_same Sd.L hj]; exact hti; rfl) (wg_d_set h.wg hj (by rw [hst]; exact id) (.inr (.inl ⟨rfl, hwg.setSt 0⟩))) (.inr ⟨by rw [hst]; simp [Stage.wt], by rw [hst]; rfl⟩) (fun _ => .inl ⟨_, mem_set_self hj, by simp⟩) (fun F em => (noP F em).elim) ⟨h1, hsh, rfl, ?_⟩
      rw [hd, deaf_wr]; exact hq'
    · exact sender_slip (q' := k) h hj hi hstep hmu (by omega) h4 hnr (by unfold SOK; simp only [hst]; exact ⟨h1, h3, h4, hq'⟩)
  | d4 =>
    simp only [hst] at hS
    obtain ⟨h1, h3, h4, h5⟩ := hS
    rcases h5.cases with ⟨_, hd, hmw, hs⟩ | ⟨k, hk, g', es, hmu, hstep, hq'⟩
    · obtain ⟨⟨b, rfl⟩, ho, hw⟩ := wg_d h.wg hj (by rw [hst]; exact id)
      have hwg : WgAt ty Wg w 0 0 := by
        rcases hw with ⟨h | h, _⟩ | ⟨_, h⟩
        · rw [hst] at h; cases h
        · rw [hst] at h; cases h
        · exact h
      obtain ⟨g', hstep, q', hq'⟩ := hs w hwg
      have hti : TI Old Wg q0 w.heap.size tag (SD.map Sd.L) (t ++ MemOp.ofEvents (q0 + j) a.frame.fn a.frame.place (semEvents (smA Wg))) :=
        ti_group h hj h1 _ _ (fun x hx => by simp [semEvents] at hx; rcases hx with rfl | rfl | rfl | rfl; exact .inl rfl; exact .inr ⟨_, _, rfl, rfl⟩; exact .inr ⟨_, _, rfl, rfl⟩; exact .inl rfl) fun k hk => by
          rw [hd]
          rcases k with _ | _ | _ | _ | _ | k
          · simp [deafBehind, semEvents]
          · simp [deafBehind, semEvents]
          · simp [deafBehind, semEvents]
          · simp [deafBehind, semEvents]
          · simp [deafBehind, semEvents]
          · simp [semEvents] at hk
      have hwt' := STurn.aside (c := Wg) h.wgt.1 (aside_setCell w (smA Wg) (.int .u32 1)) (shape_setCell w _ _)
      have hch : ∀ c, tag c = .sync → c ≠ s.c → (Open w c → Open (w.setCell (smA Wg) (.int .u32 1)) c) ∧ (Shut w c → Shut (w.setCell (smA Wg) (.int .u32 1)) c) := fun c _ _ => by
        by_cases hcW : c = Wg
        · subst hcW
          refine ⟨fun ⟨_, _, _, ho⟩ => ?_, fun ⟨_, _, _, ho⟩ => ?_⟩ <;> (have := hwg; unfold WgAt wgBlock at this; rw [ho] at this; cases this)
        · exact open_of fun _ => (aside_setCell w (smA Wg) _).block c hcW
      have hsh : Shut (w.setCell (smA Wg) (.int .u32 1)) s.c := (open_of (w := w) (w' := w.setCell (smA Wg) (.int .u32 1)) fun _ => (aside_setCell w (smA Wg) _).block s.c (h.chans j s hj).2.2.1).2 h3
      refine sender_act (s' := ⟨s.c, s.S, s.rel, .gone, q', false, .z⟩) h hj hi hstep hwt' hch rfl rfl (.inl (by rw [hst]; rfl)) rfl (by rw [map_set_same Sd.L hj]; exact hti; rfl) (wg_d_set h.wg hj (by rw [hst]; exact id) (.inr (.inr ⟨rfl, hwg.setSm 1⟩))) (.inr ⟨by rw [hst]; simp [Stage.wt], by rw [hst]; rfl⟩) (fun _ => .inr ⟨hmw, quits_running hq' (by omega)⟩) (fun F em => (noP F em).elim) ⟨h1, hsh, rfl, ?_⟩
      rw [hd, deaf_sem]; exact hq'
    · exact sender_slip (q' := k) h hj hi hstep hmu (by omega) h4 hnr (by unfold SOK; simp only [hst]; exact ⟨h1, h3, h4, hq'⟩)
  | gone =>
    simp only [hst] at hS
    obtain ⟨h1, h3, h4, h5⟩ := hS
    obtain ⟨q', hq', g', es, hmu, hstep, hQ⟩ := status_running_gone h5 hrun
    exact sender_slip (q' := q') h hj hi hstep hmu (by omega) h4 hnr (by unfold SOK; simp only [hst]; exact ⟨h1, h3, h4, hQ⟩)
end
end Go.Proofs.Ytdajdembeacefaa.M

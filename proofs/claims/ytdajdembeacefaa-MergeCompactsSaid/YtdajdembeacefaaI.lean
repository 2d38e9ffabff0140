/-
  THE PHASE, 2: one goroutine turns; all others bear it.
-/
import Derived.Test.YtdajdembeacefaaH
set_option linter.unusedSimpArgs false
set_option linter.unusedVariables false
namespace Go.Proofs.Ytdajdembeacefaa.M
open Go.Conc
open Go.ConcR (KK wgBlock WgAt stA smA rd wr mk)

/-- Goroutine i is now a'; each other is as it was or was let try again. -/
structure Turned (gs : Array Goroutine) (i : Nat) (a' : Goroutine) (w' : World) (gs' : Array Goroutine) : Prop where
  size : gs'.size = gs.size
  at_ : gs'[i]? = some a'
  others : ∀ (k : Nat) (a : Goroutine), k ≠ i → gs[k]? = some a → gs'[k]? = some a ∨ gs'[k]? = some (a.again w')

theorem turned_set {gs : Array Goroutine} {i : Nat} {a' : Goroutine} {w' : World} (hi : i < gs.size) : Turned gs i a' w' (gs.setIfInBounds i a') :=
  ⟨by simp, by simp [hi], fun k a hk ha => .inl (by rw [Array.getElem?_setIfInBounds_ne (Ne.symm hk)]; exact ha)⟩
theorem turned_woken {P : Program} {gs : Array Goroutine} {i : Nat} {g a' : Goroutine} {w' : World} (hi : i < gs.size) : Turned gs i a' w' ((gs.map (woken P g a' w')).setIfInBounds i a') := by
  refine ⟨by simp, by simp [hi], fun k a hk ha => ?_⟩
  rw [Array.getElem?_setIfInBounds_ne (Ne.symm hk), Array.getElem?_map, ha]
  simp only [Option.map_some, woken]
  split
  · exact .inr rfl
  · exact .inl rfl
theorem woken_all {P : Program} {gs : Array Goroutine} {i : Nat} {g a' : Goroutine} {w' : World} (hm : mayWake P g = true) (hr : a'.status = .running) (k : Nat) (a : Goroutine) (hk : k ≠ i) (ha : gs[k]? = some a) :
    ((gs.map (woken P g a' w')).setIfInBounds i a')[k]? = some (a.again w') := by
  rw [Array.getElem?_setIfInBounds_ne (Ne.symm hk), Array.getElem?_map, ha]
  have h1 : (a'.status != .blocked) = true := by rw [hr]; rfl
  have h2 : (a'.status != .waiting) = true := by rw [hr]; rfl
  simp [woken, hm, h1, h2]

theorem map_set_same {α β : Type} (f : α → β) {l : List α} {j : Nat} {a b : α} (h : l[j]? = some a) (e : f b = f a) : (l.set j b).map f = l.map f := by
  apply List.ext_getElem?
  intro k
  rw [List.getElem?_map, List.getElem?_map, List.getElem?_set]
  by_cases hk : j = k
  · subst hk
    have hlt := (List.getElem?_eq_some_iff.1 h).1
    simp only [hlt, if_true, h, Option.map_some, e]
  · simp [hk]
theorem get_set {α : Type} {l : List α} {j k : Nat} {a b c : α} (h : l[j]? = some a) (hk : (l.set j b)[k]? = some c) : (k = j ∧ c = b) ∨ (k ≠ j ∧ l[k]? = some c) := by
  rw [List.getElem?_set] at hk
  by_cases e : j = k
  · subst e
    have hlt := (List.getElem?_eq_some_iff.1 h).1
    simp [hlt] at hk
    exact .inl ⟨rfl, hk.symm⟩
  · simp [e] at hk
    exact .inr ⟨Ne.symm e, hk⟩

theorem Open.lt {w : World} {c : Nat} (h : Open w c) : c < w.heap.size := by
  obtain ⟨_, _, _, h⟩ := h; exact (Array.getElem?_eq_some_iff.1 h).1
theorem Shut.lt {w : World} {c : Nat} (h : Shut w c) : c < w.heap.size := by
  obtain ⟨_, _, _, h⟩ := h; exact (Array.getElem?_eq_some_iff.1 h).1
theorem wgOK_b {ty : TypeId} {Wg : Nat} {SD : List Sd} {w : World} (b b' : Bool) : WgOK ty Wg (.w3 b) SD w ↔ WgOK ty Wg (.w3 b') SD w := Iff.rfl

section
variable {P : Program} {ty : TypeId} {Wg e : Nat} {AnchW Fin : Gh → Goroutine → World → Prop} {Old : Loc → Prop} {q0 : Nat} {tag tag' : Nat → Tag} {SD : List Sd} {m m' : MSt} {rm rm' : Rk} {qo : Nat → Nat} {Sm : Nat}
  {gs gs' : Array Goroutine} {w w' : World} {t u : Trace}

theorem SOK.chan {x : Th} {O : Gh} {s : Sd} {a : Goroutine} (h : SOK P ty Wg e x O w s a) : s.c < w.heap.size := by
  unfold SOK at h
  cases hst : s.st with
  | run l => simp only [hst] at h; exact h.2.2.1.lt
  | clo => simp only [hst] at h; exact h.2.2.1.lt
  | _ => simp only [hst] at h; exact h.2.1.lt
theorem SOK.open {x : Th} {O : Gh} {s : Sd} {a : Goroutine} {l : List Value} (h : SOK P ty Wg e x O w s a) (hl : s.st = .run l) : Open w s.c := by
  unfold SOK at h; simp only [hl] at h; exact h.2.2.1

theorem deaf_other {i k : Nat} (hk : k ≠ i) (hu : ∀ op ∈ u, op.g = i) : Deaf (t ++ u) k = Deaf t k := Deaf_other t (Ne.symm hk) u hu

theorem quits_again {n d : Nat} {g : Goroutine} (h : QuitsD P n d g) (w : World) : g.again w = g := again_running w h.status

/-- What is kept of the old leavers. -/
theorem PInv.olds (h : PInv P ty Wg e AnchW Fin Old q0 tag SD m rm qo Sm gs w t) {i : Nat} {a' : Goroutine} (hT : Turned gs i a' w' gs') (hi : i = 0 ∨ q0 ≤ i) (hu : ∀ op ∈ u, op.g = i) :
    ∀ (k : Nat) (a : Goroutine), 0 < k → k < q0 → gs'[k]? = some a → QuitsD P (qo k) (Deaf (t ++ u) k) a := by
  intro k a h0 hk ha
  have hki : k ≠ i := by omega
  rw [deaf_other hki hu]
  have hlt : k < gs.size := by rw [h.size]; omega
  have hb := h.old k gs[k] h0 hk (Array.getElem?_eq_getElem hlt)
  rcases hT.others k gs[k] hki (Array.getElem?_eq_getElem hlt) with h1 | h1
  · rw [h1] at ha; cases ha; exact hb
  · rw [quits_again hb] at h1; rw [h1] at ha; cases ha; exact hb
theorem PInv.aboves (h : PInv P ty Wg e AnchW Fin Old q0 tag SD m rm qo Sm gs w t) {i : Nat} {a' : Goroutine} (hT : Turned gs i a' w' gs') (hu : ∀ op ∈ u, op.g = i) : ∀ k, gs'.size ≤ k → Deaf (t ++ u) k = 0 := by
  intro k hk
  have hi : i < gs'.size := (Array.getElem?_eq_some_iff.1 hT.at_).1
  rw [deaf_other (by omega) hu]
  exact h.above k (by rw [← hT.size]; exact hk)
/-- What is kept of a sender that does not act. -/
theorem PInv.snds (h : PInv P ty Wg e AnchW Fin Old q0 tag SD m rm qo Sm gs w t) {i : Nat} {a' : Goroutine} (hT : Turned gs i a' w' gs') (hu : ∀ op ∈ u, op.g = i)
    (hrel : ∀ (x : Th) (d : Nat), x.id ≠ i → Rel x ⟨tag, d⟩ w ⟨tag', d⟩ w') {k : Nat} {s : Sd} (hk : SD[k]? = some s) (hki : q0 + k ≠ i)
    (hch : ∀ c, tag c = .sync → (c = s.c ∨ c = e) → (Open w c → Open w' c) ∧ (Shut w c → Shut w' c)) :
    ∃ a, gs'[q0 + k]? = some a ∧ SOK P ty Wg e ⟨q0 + k, s.S⟩ ⟨tag', Deaf (t ++ u) (q0 + k)⟩ w' s a := by
  obtain ⟨a, ha, hs⟩ := h.snd k s hk
  have hc := hch s.c (h.chans k s hk).1 (.inl rfl)
  have hs' := hs.rely (hrel ⟨q0 + k, s.S⟩ (Deaf t (q0 + k)) hki) hc.1 hc.2
  rw [deaf_other hki hu]
  have hag : a.again w' = a := hs'.again_keep (e := e) fun hp => by
    have hm : m.early := Classical.byContradiction fun hm => by
      have := h.pks hm s (List.mem_of_getElem? hk); rw [hp] at this; cases this
    exact (hch e h.et.1 (.inr rfl)).1 (h.eopen.1 hm)
  refine ⟨a, ?_, hs'⟩
  rcases hT.others _ a hki ha with h1 | h1
  · exact h1
  · rw [hag] at h1; exact h1
/-- What is kept of main, when it does not act. -/
theorem PInv.mains (h : PInv P ty Wg e AnchW Fin Old q0 tag SD m rm qo Sm gs w t) {i : Nat} {a' : Goroutine} (hT : Turned gs i a' w' gs') (hu : ∀ op ∈ u, op.g = i) (hi : i ≠ 0) {sn' : List Snd} (hsn : sn' = SD.map Sd.snd ∨ ¬ m.early)
    (hrel : ∀ (x : Th) (d : Nat), x.id ≠ i → Rel x ⟨tag, d⟩ w ⟨tag', d⟩ w') (hP : ∀ F j c l, m = .P F j → sn'[j]? = some (c, l) → Open w' c) :
    ∃ m' rm', (∃ a, gs'[0]? = some a ∧ MOK P ty Wg e AnchW Fin Sm sn' ⟨tag', Deaf (t ++ u) 0⟩ w' m' rm' a) ∧ (m' = m ∨ (m = .w3 true ∧ m' = .w3 false)) ∧
      (m' = .w3 true → ¬ ∀ a, gs[0]? = some a → gs'[0]? = some (a.again w')) := by
  obtain ⟨a, ha, hs⟩ := h.main
  have hs' := (hs.rely (hrel x0 (Deaf t 0) (fun e => hi e.symm))).swap hsn
  rw [deaf_other (Ne.symm hi) hu]
  by_cases hag : gs'[0]? = some (a.again w')
  · obtain ⟨m', rm', h2, h3⟩ := hs'.again_keep hP
    exact ⟨m', rm', ⟨_, hag, h2⟩, h3.imp (·.1) id, fun e => by rcases h3 with ⟨rfl, h4⟩ | ⟨_, rfl⟩; exact absurd e h4; cases e⟩
  · rcases hT.others 0 a (Ne.symm hi) ha with h1 | h1
    · exact ⟨m, rm, ⟨a, h1, hs'⟩, .inl rfl, fun _ hall => hag (hall a ha)⟩
    · exact absurd h1 hag

/-- A SENDER TURNS. -/
theorem PInv.turnS (h : PInv P ty Wg e AnchW Fin Old q0 tag SD m rm qo Sm gs w t) {j : Nat} {s s' : Sd} {a' : Goroutine} (hj : SD[j]? = some s) (hT : Turned gs (q0 + j) a' w' gs')
    (hc : s'.c = s.c) (hS : s'.S = s.S) (hsn : s'.st.left = s.st.left ∨ ¬ m.early)
    (hrel : ∀ (x : Th) (d : Nat), x.id ≠ q0 + j → Rel x ⟨tag, d⟩ w ⟨tag', d⟩ w')
    (hch : ∀ c, tag c = .sync → c ≠ s.c → (Open w c → Open w' c) ∧ (Shut w c → Shut w' c))
    (hu : ∀ op ∈ u, op.g = q0 + j)
    (hOK : SOK P ty Wg e ⟨q0 + j, s.S⟩ ⟨tag', Deaf (t ++ u) (q0 + j)⟩ w' s' a')
    (hti : TI Old Wg q0 w'.heap.size tag' ((SD.set j s').map Sd.L) (t ++ u))
    (hsz : w.heap.size ≤ w'.heap.size) (htag : ∀ b, b < w.heap.size → tag' b = tag b) (hnew : ∀ b, w.heap.size ≤ b → b < w'.heap.size → ∀ y, q0 + SD.length ≤ y → tag' b ≠ .mine y)
    (hwg : WgOK ty Wg m (SD.set j s') w') (hpk : s'.pk = true → m.early)
    (hblk : m = .w3 true → (∃ s2 ∈ SD.set j s', s2.st ≠ .gone) ∨ ∀ a, gs[0]? = some a → gs'[0]? = some (a.again w'))
    (hP : ∀ F, m = .P F j → (∃ l, Open w' s.c ∧ s'.st = .run l ∧ s'.pk = false) ∨ (Shut w' s.c ∧ ∀ a, gs[0]? = some a → gs'[0]? = some (a.again w'))) :
    ∃ m' rm', PInv P ty Wg e AnchW Fin Old q0 tag' (SD.set j s') m' rm' qo Sm gs' w' (t ++ u) ∧ m'.fu = m.fu ∧ ∀ n, m'.wt n = m.wt n := by
  have hi0 : q0 + j ≠ 0 := by have := h.hq; omega
  have hsn' : (SD.set j s').map Sd.snd = SD.map Sd.snd ∨ ¬ m.early := hsn.imp (fun e => map_set_same _ hj (by simp [Sd.snd, hc, e])) id
  have hct : s.c < w.heap.size := by obtain ⟨a, _, hs⟩ := h.snd j s hj; exact hs.chan
  have main' : ∃ m' rm', (∃ a, gs'[0]? = some a ∧ MOK P ty Wg e AnchW Fin Sm ((SD.set j s').map Sd.snd) ⟨tag', Deaf (t ++ u) 0⟩ w' m' rm' a) ∧ (m' = m ∨ (m = .w3 true ∧ m' = .w3 false) ∨ (∃ F, m = .P F j ∧ m' = .A F)) ∧
      (m' = m → ∀ F, m = .P F j → ∃ l, s'.st = .run l ∧ s'.pk = false) ∧ (m' = .w3 true → ∃ s2 ∈ SD.set j s', s2.st ≠ .gone) := by
    by_cases hcl : ∃ F, m = .P F j ∧ Shut w' s.c ∧ ∀ a, gs[0]? = some a → gs'[0]? = some (a.again w')
    · obtain ⟨F, rfl, hsh, hall⟩ := hcl
      obtain ⟨a, ha, hs⟩ := h.main
      have hs' := (hs.rely (hrel x0 (Deaf t 0) (fun e => hi0 e.symm))).swap hsn'
      refine ⟨.A F, atStop, ⟨_, hall a ha, ?_⟩, .inr (.inr ⟨F, rfl, rfl⟩), (fun e => by cases e), fun e => by cases e⟩
      rw [deaf_other (Ne.symm hi0) hu]
      have hlt := (List.getElem?_eq_some_iff.1 hj).1
      exact hs'.wake (c := s.c) (l := s'.st.left) (by rw [List.getElem?_map, List.getElem?_set]; simp [hlt, Sd.snd, hc]) hsh
    · have hP' : ∀ F, m = .P F j → ∃ l, Open w' s.c ∧ s'.st = .run l ∧ s'.pk = false := fun F e => (hP F e).elim id fun h2 => absurd ⟨F, e, h2⟩ hcl
      obtain ⟨m', rm', h1, h2, h2'⟩ := h.mains hT hu hi0 hsn' hrel (fun F k c l e hk => by
        rw [List.getElem?_map] at hk
        obtain ⟨s2, hs2, e2⟩ := Option.map_eq_some_iff.1 hk
        rcases get_set hj hs2 with ⟨rfl, rfl⟩ | ⟨hne, hs3⟩
        · obtain ⟨l2, ho, _, _⟩ := hP' F e
          simp only [Sd.snd, Prod.mk.injEq] at e2
          rw [← e2.1, hc]; exact ho
        · obtain ⟨s4, l4, h4, h5, _⟩ := h.recv F k e
          rw [hs3] at h4; cases h4
          simp only [Sd.snd, Prod.mk.injEq] at e2
          rw [← e2.1]
          obtain ⟨a2, _, hs5⟩ := h.snd k s2 hs3
          exact (hch s2.c (h.chans k s2 hs3).1 (fun e => hne (h.dist k j s2 s hs3 hj e))).1 (hs5.open h5))
      exact ⟨m', rm', h1, h2.imp id .inl, (fun _ F e => by obtain ⟨l, _, h3⟩ := hP' F e; exact ⟨l, h3⟩), fun e => by
        have e2 : m = .w3 true := by rcases h2 with rfl | ⟨_, rfl⟩; exact e; cases e
        exact (hblk e2).elim id fun h4 => absurd h4 (h2' e)⟩
  obtain ⟨m', rm', hM, hm', hrun, hbl⟩ := main'
  have hea : m'.early ↔ m.early := by rcases hm' with rfl | ⟨rfl, rfl⟩ | ⟨F, rfl, rfl⟩ <;> simp [MSt.early]
  have hge : ∀ {k : Nat} {s2 : Sd}, (SD.set j s')[k]? = some s2 → ∃ s3, SD[k]? = some s3 ∧ s2.c = s3.c ∧ s2.S = s3.S := by
    intro k s2 hk
    rcases get_set hj hk with ⟨rfl, rfl⟩ | ⟨_, h3⟩
    · exact ⟨s, hj, hc, hS⟩
    · exact ⟨s2, h3, rfl, rfl⟩
  refine ⟨m', rm', ⟨by rw [hT.size, h.size, List.length_set], h.hq, by rw [List.length_set]; exact h.len, h.olds hT (.inr (by omega)) hu, h.aboves hT hu, hM, fun k s2 hk => ?_, hti, fun l hl => ?_, ⟨(htag Wg h.wgt.2).trans h.wgt.1, Nat.lt_of_lt_of_le h.wgt.2 hsz⟩, ⟨?_, h.et.2⟩, fun k s2 hk => ?_, fun k1 k2 s1 s2 h1 h2 e => ?_, Nat.le_trans h.hSm hsz, fun b hb y hy => ?_, ?_, ?_, fun hm s2 h2 => ?_, hbl, fun F k e => ?_⟩, ?_⟩
  · rcases get_set hj hk with ⟨rfl, rfl⟩ | ⟨hne, h3⟩
    · exact ⟨a', hT.at_, by rw [hS]; exact hOK⟩
    · refine h.snds hT hu hrel h3 (by omega) fun c hs hcc => hch c hs ?_
      rcases hcc with rfl | rfl
      · exact fun e => hne (h.dist k j s2 s h3 hj e)
      · exact fun e => (h.chans j s hj).2.1 e.symm
  · obtain ⟨b, h1, h2, h3⟩ := h.hold l hl
    exact ⟨b, h1, Nat.lt_of_lt_of_le h2 hsz, (htag b h2).trans h3⟩
  · have : e < w.heap.size := by by_cases hm : m.early; exact (h.eopen.1 hm).lt; exact (h.eopen.2 hm).lt
    exact (htag e this).trans h.et.1
  · obtain ⟨s3, h3, e1, e2⟩ := hge hk
    obtain ⟨a3, _, ha3⟩ := h.snd k s3 h3
    have := h.chans k s3 h3
    rw [e1, e2, htag _ ha3.chan]; exact this
  · obtain ⟨s3, h3, e3, _⟩ := hge h1
    obtain ⟨s4, h4, e4, _⟩ := hge h2
    exact h.dist k1 k2 s3 s4 h3 h4 (by rw [← e3, ← e4]; exact e)
  · rw [List.length_set] at hy
    by_cases hlt : b < w.heap.size
    · rw [htag b hlt]; exact h.tags b hlt y hy
    · exact hnew b (by omega) hb y hy
  · have hce := hch e h.et.1 (fun e2 => (h.chans j s hj).2.1 e2.symm)
    exact ⟨fun hm => hce.1 (h.eopen.1 (hea.1 hm)), fun hm => hce.2 (h.eopen.2 fun h2 => hm (hea.2 h2))⟩
  · rcases hm' with rfl | ⟨rfl, rfl⟩ | ⟨F, rfl, rfl⟩
    · exact hwg
    · exact hwg
    · exact hwg
  · obtain ⟨k, hk⟩ := List.getElem?_of_mem h2
    rcases get_set hj hk with ⟨rfl, rfl⟩ | ⟨_, h3⟩
    · cases hp : s2.pk with
      | false => rfl
      | true => exact absurd (hea.2 (hpk hp)) hm
    · exact h.pks (fun h4 => hm (hea.2 h4)) s2 (List.mem_of_getElem? h3)
  · have e' : m = .P F k ∧ m' = m := by
      rcases hm' with rfl | ⟨rfl, rfl⟩ | ⟨F', rfl, rfl⟩
      · exact ⟨e, rfl⟩
      · cases e
      · cases e
    have hlt := (List.getElem?_eq_some_iff.1 hj).1
    by_cases hkj : k = j
    · subst hkj
      obtain ⟨l, h1, h2⟩ := hrun e'.2 F e'.1
      exact ⟨s', l, by simp [List.getElem?_set, hlt], h1, h2⟩
    · obtain ⟨s2, l, h1, h2, h3⟩ := h.recv F k e'.1
      exact ⟨s2, l, by rw [List.getElem?_set]; simp [Ne.symm hkj, h1], h2, h3⟩
  · rcases hm' with rfl | ⟨rfl, rfl⟩ | ⟨F, rfl, rfl⟩ <;> simp [MSt.fu, MSt.wt]

/-- MAIN TURNS. -/
theorem PInv.turnM (h : PInv P ty Wg e AnchW Fin Old q0 tag SD m rm qo Sm gs w t) {a' : Goroutine} (hT : Turned gs 0 a' w' gs')
    (hrel : ∀ (x : Th) (d : Nat), x.id ≠ 0 → Rel x ⟨tag, d⟩ w ⟨tag', d⟩ w')
    (hch : ∀ c, tag c = .sync → (Open w c → Open w' c) ∧ (Shut w c → Shut w' c))
    (hu : ∀ op ∈ u, op.g = 0)
    (hOK : MOK P ty Wg e AnchW Fin Sm (SD.map Sd.snd) ⟨tag', Deaf (t ++ u) 0⟩ w' m' rm' a')
    (hti : TI Old Wg q0 w'.heap.size tag' (SD.map Sd.L) (t ++ u))
    (hsz : w.heap.size ≤ w'.heap.size) (htag : ∀ b, b < w.heap.size → tag' b = tag b) (hnew : ∀ b, w.heap.size ≤ b → b < w'.heap.size → ∀ y, q0 + SD.length ≤ y → tag' b ≠ .mine y)
    (hwg : WgOK ty Wg m' SD w') (hea : m'.early ↔ m.early) (hblk : m' = .w3 true → ∃ s ∈ SD, s.st ≠ .gone)
    (hP : ∀ F j, m' = .P F j → ∃ (s : Sd) (l : List Value), SD[j]? = some s ∧ s.st = .run l ∧ s.pk = false) :
    PInv P ty Wg e AnchW Fin Old q0 tag' SD m' rm' qo Sm gs' w' (t ++ u) := by
  have hq := h.hq
  refine ⟨by rw [hT.size, h.size], h.hq, h.len, h.olds hT (.inl rfl) hu, h.aboves hT hu, ⟨a', hT.at_, hOK⟩, fun k s hk => h.snds hT hu hrel hk (by omega) fun c hs _ => hch c hs, hti, fun l hl => ?_, ⟨(htag Wg h.wgt.2).trans h.wgt.1, Nat.lt_of_lt_of_le h.wgt.2 hsz⟩, ⟨?_, h.et.2⟩, fun k s hk => ?_, h.dist, Nat.le_trans h.hSm hsz, fun b hb y hy => ?_, ?_, hwg, fun hm => h.pks fun h2 => hm (hea.2 h2), hblk, hP⟩
  · obtain ⟨b, h1, h2, h3⟩ := h.hold l hl
    exact ⟨b, h1, Nat.lt_of_lt_of_le h2 hsz, (htag b h2).trans h3⟩
  · have : e < w.heap.size := by by_cases hm : m.early; exact (h.eopen.1 hm).lt; exact (h.eopen.2 hm).lt
    exact (htag e this).trans h.et.1
  · obtain ⟨a3, _, ha3⟩ := h.snd k s hk
    have := h.chans k s hk
    rw [htag _ ha3.chan]; exact this
  · by_cases hlt : b < w.heap.size
    · rw [htag b hlt]; exact h.tags b hlt y hy
    · exact hnew b (by omega) hb y hy
  · have hce := hch e h.et.1
    exact ⟨fun hm => hce.1 (h.eopen.1 (hea.1 hm)), fun hm => hce.2 (h.eopen.2 fun h2 => hm (hea.2 h2))⟩

/-- AN OLD LEAVER TURNS. -/
theorem PInv.turnL (h : PInv P ty Wg e AnchW Fin Old q0 tag SD m rm qo Sm gs w t) {i k : Nat} {a' : Goroutine} (hi : 0 < i) (hiq : i < q0) (hT : Turned gs i a' w gs')
    (hu : ∀ op ∈ u, op.g = i) (hq' : QuitsD P k (Deaf (t ++ u) i) a') (hti : TI Old Wg q0 w.heap.size tag (SD.map Sd.L) (t ++ u)) :
    ∃ m' rm', PInv P ty Wg e AnchW Fin Old q0 tag SD m' rm' (Go.ConcN.upd qo i k) Sm gs' w (t ++ u) ∧ m'.fu = m.fu ∧ ∀ n, m'.wt n = m.wt n := by
  have hrel : ∀ (x : Th) (d : Nat), x.id ≠ i → Rel x ⟨tag, d⟩ w ⟨tag, d⟩ w := fun x d _ => Rel.refl _ _ _
  obtain ⟨m', rm', hM, hm', _⟩ := h.mains hT hu (by omega) (.inl rfl) hrel (fun F k c l e hk => by
    rw [List.getElem?_map] at hk
    obtain ⟨s2, hs2, e2⟩ := Option.map_eq_some_iff.1 hk
    obtain ⟨s4, l4, h4, h5, _⟩ := h.recv F k e
    rw [hs2] at h4; cases h4
    simp only [Sd.snd, Prod.mk.injEq] at e2
    rw [← e2.1]
    obtain ⟨a2, _, hs5⟩ := h.snd k s2 hs2
    exact hs5.open h5)
  have hea : m'.early ↔ m.early := by rcases hm' with rfl | ⟨rfl, rfl⟩ <;> simp [MSt.early]
  refine ⟨m', rm', ⟨by rw [hT.size, h.size], h.hq, h.len, fun j a h0 hj ha => ?_, h.aboves hT hu, hM, fun k s hk => h.snds hT hu hrel hk (by omega) fun c hs _ => ⟨id, id⟩, hti, h.hold, h.wgt, h.et, h.chans, h.dist, h.hSm, h.tags, ⟨fun hm => h.eopen.1 (hea.1 hm), fun hm => h.eopen.2 fun h2 => hm (hea.2 h2)⟩, ?_, fun hm => h.pks fun h2 => hm (hea.2 h2), fun e => h.blkd (by rcases hm' with rfl | ⟨_, rfl⟩; exact e; cases e), fun F j e => ?_⟩, ?_⟩
  · by_cases hji : j = i
    · subst hji
      rw [hT.at_] at ha; cases ha
      rw [Go.ConcN.upd_same]; exact hq'
    · rw [Go.ConcN.upd_ne qo k hji, deaf_other hji hu]
      have hlt : j < gs.size := by rw [h.size]; omega
      have hb := h.old j gs[j] h0 hj (Array.getElem?_eq_getElem hlt)
      rcases hT.others j gs[j] hji (Array.getElem?_eq_getElem hlt) with h1 | h1
      · rw [h1] at ha; cases ha; exact hb
      · rw [quits_again hb] at h1; rw [h1] at ha; cases ha; exact hb
  · rcases hm' with rfl | ⟨rfl, rfl⟩
    · exact h.wg
    · exact h.wg
  · rcases hm' with rfl | ⟨rfl, rfl⟩
    · exact h.recv F j e
    · cases e
  · rcases hm' with rfl | ⟨rfl, rfl⟩ <;> simp [MSt.fu, MSt.wt]

theorem PInv.at (h : PInv P ty Wg e AnchW Fin Old q0 tag SD m rm qo Sm gs w t) (d : Nat) : PInv P ty Wg e AnchW Fin Old q0 tag SD m rm qo Sm gs (w.at d) t := by
  refine ⟨h.size, h.hq, h.len, h.old, h.above, ?_, fun j s hj => ?_, h.ti, h.hold, h.wgt, h.et, h.chans, h.dist, h.hSm, h.tags, h.eopen, ?_, h.pks, h.blkd, h.recv⟩
  · obtain ⟨a, ha, hm⟩ := h.main
    exact ⟨a, ha, hm.rely (Rel.at _ _ _ _)⟩
  · obtain ⟨a, ha, hs⟩ := h.snd j s hj
    exact ⟨a, ha, hs.rely (Rel.at _ _ _ _) id id⟩
  · have := h.wg
    unfold WgOK at this ⊢
    cases m <;> exact this

theorem deaf_nomark (hu : ∀ op ∈ u, ∀ m, op.act ≠ .mark m) (k : Nat) : Deaf (t ++ u) k = Deaf t k := by
  obtain ⟨l⟩ := u
  rw [Deaf_append]
  have hu' : ∀ op ∈ l, ∀ m, op.act ≠ .mark m := fun op h => hu op (by simpa using h)
  generalize Deaf t k = d
  induction l generalizing d with
  | nil => rfl
  | cons y l ih =>
    have : deafStep k d y = d := by
      unfold deafStep
      have := hu' y (List.mem_cons_self ..)
      split
      · rename_i h; exact absurd h (this _)
      · rename_i h; exact absurd h (this _)
      · rfl
    rw [List.foldl_cons, this]
    exact ih (fun op h => hu op (by simp at h ⊢; exact .inr h)) (fun op h => hu' op (List.mem_cons_of_mem _ h)) d

/-- MAIN AND A SENDER MEET: its first value is handed over. -/
theorem PInv.meet (h : PInv P ty Wg e AnchW Fin Old q0 tag SD m rm qo Sm gs w t) {j F : Nat} {s : Sd} {v : Value} {l : List Value} {am as : Goroutine} {rs : Rk} (hj : SD[j]? = some s) (hst : s.st = .run (v :: l)) (hm : m.early) (hgo : ∀ F, m ≠ .go F)
    (hsize : gs'.size = gs.size) (h0 : gs'[0]? = some am) (hs0 : gs'[q0 + j]? = some as) (hoth : ∀ (k : Nat) (a : Goroutine), k ≠ 0 → k ≠ q0 + j → gs[k]? = some a → gs'[k]? = some a)
    (hw : STurn tag w w') (hch : ∀ c, (Open w c → Open w' c) ∧ (Shut w c → Shut w' c)) (hwgb : w'.heap[Wg]? = w.heap[Wg]?)
    (hu : ∀ op ∈ u, ∀ m, op.act ≠ .mark m) (hti : TI Old Wg q0 w'.heap.size tag (SD.map Sd.L) (t ++ u))
    (hM : MOK P ty Wg e AnchW Fin Sm ((SD.map Sd.snd).set j (s.c, l)) ⟨tag, Deaf (t ++ u) 0⟩ w' (.A F) rm' am)
    (hS : SOK P ty Wg e ⟨q0 + j, s.S⟩ ⟨tag, Deaf (t ++ u) (q0 + j)⟩ w' { s with st := .run l, pk := false, rk := rs } as) :
    PInv P ty Wg e AnchW Fin Old q0 tag (SD.set j { s with st := .run l, pk := false, rk := rs }) (.A F) rm' qo Sm gs' w' (t ++ u) := by
  have hq := h.hq
  have hlt := (List.getElem?_eq_some_iff.1 hj).1
  have hge : ∀ {k : Nat} {s2 : Sd}, (SD.set j { s with st := .run l, pk := false, rk := rs })[k]? = some s2 → ∃ s3, SD[k]? = some s3 ∧ s2.c = s3.c ∧ s2.S = s3.S := by
    intro k s2 hk
    rcases get_set hj hk with ⟨rfl, rfl⟩ | ⟨_, h3⟩
    · exact ⟨s, hj, rfl, rfl⟩
    · exact ⟨s2, h3, rfl, rfl⟩
  have eL : (SD.set j { s with st := .run l, pk := false, rk := rs }).map Sd.L = SD.map Sd.L := map_set_same _ hj rfl
  have eal : al (SD.set j { s with st := .run l, pk := false, rk := rs }) = al SD := by unfold al; rw [map_set_same _ hj (by simp [hst, Stage.al])]
  refine ⟨by rw [hsize, h.size, List.length_set], h.hq, by rw [List.length_set]; exact h.len, fun k a hk0 hk ha => ?_, fun k hk => ?_, ⟨am, h0, ?_⟩, fun k s2 hk => ?_, by rw [eL]; exact hti, fun l hl => ?_, ?_, h.et, fun k s2 hk => ?_, fun k1 k2 s1 s2 h1 h2 e => ?_, by rw [hw.size]; exact h.hSm, fun b hb y hy => ?_, ⟨fun _ => (hch e).1 (h.eopen.1 hm), fun h => absurd trivial h⟩, ?_, (fun h => absurd trivial h), (fun e => by cases e), fun F k e => by cases e⟩
  · rw [deaf_nomark hu]
    have hlt : k < gs.size := by rw [h.size]; omega
    have := hoth k gs[k] (by omega) (by omega) (Array.getElem?_eq_getElem hlt)
    rw [this] at ha; cases ha
    exact h.old k _ hk0 hk (Array.getElem?_eq_getElem hlt)
  · rw [deaf_nomark hu]; exact h.above k (by rw [← hsize]; exact hk)
  · rw [List.map_set]; exact hM
  · rcases get_set hj hk with ⟨rfl, rfl⟩ | ⟨hne, h3⟩
    · exact ⟨as, hs0, hS⟩
    · obtain ⟨a, ha, hs⟩ := h.snd k s2 h3
      refine ⟨a, hoth _ a (by omega) (by omega) ha, ?_⟩
      rw [deaf_nomark hu]
      exact hs.rely (hw.rel _ _) (hch s2.c).1 (hch s2.c).2
  · obtain ⟨b, h1, h2, h3⟩ := h.hold l hl
    exact ⟨b, h1, by rw [hw.size]; exact h2, h3⟩
  · rw [hw.size]; exact h.wgt
  · obtain ⟨s3, h3, e1, e2⟩ := hge hk
    rw [e1, e2]; exact h.chans k s3 h3
  · obtain ⟨s3, h3, e3, _⟩ := hge h1
    obtain ⟨s4, h4, e4, _⟩ := hge h2
    exact h.dist k1 k2 s3 s4 h3 h4 (by rw [← e3, ← e4]; exact e)
  · rw [List.length_set] at hy; rw [hw.size] at hb; exact h.tags b hb y hy
  · have hwg := h.wg
    have hpl : (∀ s2 ∈ SD, s2.st.plain) → ∀ s2 ∈ SD.set j { s with st := .run l, pk := false, rk := rs }, s2.st.plain := by
      intro hp s2 h2
      obtain ⟨k, hk⟩ := List.getElem?_of_mem h2
      rcases get_set hj hk with ⟨rfl, rfl⟩ | ⟨_, h3⟩
      · trivial
      · exact hp s2 (List.mem_of_getElem? h3)
    unfold WgOK at hwg ⊢
    cases m with
    | A F => simp only at hwg ⊢; rw [eal]; exact ⟨hwg.1.of_block hwgb, hpl hwg.2⟩
    | P F k => simp only at hwg ⊢; rw [eal]; exact ⟨hwg.1.of_block hwgb, hpl hwg.2⟩
    | go F => exact absurd rfl (hgo F)
    | _ => exact hm.elim

theorem ranks_exist {Q : Nat → Sd → Rk → Prop} (h : ∀ (j : Nat) (s : Sd), SD[j]? = some s → ∃ rk, Q j s rk) :
    ∃ SD' : List Sd, SD'.length = SD.length ∧ ∀ (j : Nat) (s' : Sd), SD'[j]? = some s' → ∃ s rk, SD[j]? = some s ∧ s' = { s with pk := false, rk := rk } ∧ Q j s rk := by
  classical
  refine ⟨SD.mapIdx fun j s => { s with pk := false, rk := if h : ∃ rk, Q j s rk then h.choose else .z }, by simp, fun j s' hj => ?_⟩
  rw [List.getElem?_mapIdx] at hj
  obtain ⟨s, hs, e⟩ := Option.map_eq_some_iff.1 hj
  have hx := h j s hs
  exact ⟨s, _, hs, e.symm, by simp only [hx, dif_pos]; exact hx.choose_spec⟩

/-- MAIN CLOSES 'enough'. -/
theorem PInv.turnE (h : PInv P ty Wg e AnchW Fin Old q0 tag SD m rm qo Sm gs w t) {F : Nat} {a' : Goroutine} (hm : m = .A F)
    (hsize : gs'.size = gs.size) (h0 : gs'[0]? = some a') (hoth : ∀ (k : Nat) (a : Goroutine), k ≠ 0 → gs[k]? = some a → gs'[k]? = some (a.again w'))
    (hw : STurn tag w w') (hch : ∀ c, c ≠ e → (Open w c → Open w' c) ∧ (Shut w c → Shut w' c)) (he : Shut w' e) (hwgb : w'.heap[Wg]? = w.heap[Wg]?)
    (hu : ∀ op ∈ u, op.g = 0) (hti : TI Old Wg q0 w'.heap.size tag (SD.map Sd.L) (t ++ u))
    (hM : MOK P ty Wg e AnchW Fin Sm (SD.map Sd.snd) ⟨tag, Deaf (t ++ u) 0⟩ w' .anch rm' a') :
    ∃ SD', PInv P ty Wg e AnchW Fin Old q0 tag SD' .anch rm' qo Sm gs' w' (t ++ u) := by
  have hq := h.hq
  have hS : ∀ (j : Nat) (s : Sd), SD[j]? = some s → ∃ rk, ∃ a, gs'[q0 + j]? = some a ∧ SOK P ty Wg e ⟨q0 + j, s.S⟩ ⟨tag, Deaf (t ++ u) (q0 + j)⟩ w' { s with pk := false, rk := rk } a := by
    intro j s hj
    obtain ⟨a, ha, hs⟩ := h.snd j s hj
    have hc := hch s.c (h.chans j s hj).2.1
    obtain ⟨rk, hr⟩ := (hs.rely (hw.rel ⟨q0 + j, s.S⟩ _) hc.1 hc.2).wake he
    exact ⟨rk, _, hoth _ a (by omega) ha, by rw [deaf_other (by omega) hu]; exact hr⟩
  obtain ⟨SD', hlen, hSD⟩ := ranks_exist hS
  have back : ∀ {f : Sd → Nat × Option Nat}, (∀ (s : Sd) (rk : Rk), f { s with pk := false, rk := rk } = f s) → SD'.map f = SD.map f := by
    intro f hf
    apply List.ext_getElem?
    intro k
    rw [List.getElem?_map, List.getElem?_map]
    by_cases hk : k < SD'.length
    · obtain ⟨s, rk, h1, h2, _⟩ := hSD k SD'[k] (List.getElem?_eq_getElem hk)
      rw [List.getElem?_eq_getElem hk, h1, h2]; simp [hf]
    · rw [List.getElem?_eq_none (by omega), List.getElem?_eq_none (by omega)]
  have eL : SD'.map Sd.L = SD.map Sd.L := back fun s rk => rfl
  have eal : al SD' = al SD := by
    have := back (f := fun s => (s.st.al, none)) fun s rk => rfl
    unfold al
    have h2 := congrArg (fun l : List (Nat × Option Nat) => l.map Prod.fst) this
    simp only [List.map_map] at h2
    exact congrArg List.sum h2
  refine ⟨SD', by rw [hsize, h.size, hlen], h.hq, by rw [hlen]; exact h.len, fun k a hk0 hk ha => ?_, fun k hk => ?_, ⟨a', h0, hM⟩, fun k s2 hk => ?_, by rw [eL]; exact hti, fun l hl => ?_, by rw [hw.size]; exact h.wgt, h.et, fun k s2 hk => ?_, fun k1 k2 s1 s2 h1 h2 e => ?_, by rw [hw.size]; exact h.hSm, fun b hb y hy => ?_, ⟨fun h => h.elim, fun _ => he⟩, ?_, fun _ s2 h2 => ?_, (fun e => by cases e), fun F k e => by cases e⟩
  · rw [deaf_other (by omega) hu]
    have hlt : k < gs.size := by rw [h.size]; omega
    have hb := h.old k gs[k] hk0 hk (Array.getElem?_eq_getElem hlt)
    have h1 := hoth k gs[k] (by omega) (Array.getElem?_eq_getElem hlt)
    rw [quits_again hb] at h1; rw [h1] at ha; cases ha; exact hb
  · have : gs.size = q0 + SD.length := h.size
    rw [deaf_other (by omega) hu]; exact h.above k (by rw [← hsize]; exact hk)
  · obtain ⟨s, rk, h1, rfl, a, ha, h3⟩ := hSD k s2 hk
    exact ⟨a, ha, h3⟩
  · obtain ⟨b, h1, h2, h3⟩ := h.hold l hl
    exact ⟨b, h1, by rw [hw.size]; exact h2, h3⟩
  · obtain ⟨s, rk, h1, rfl, _⟩ := hSD k s2 hk
    exact h.chans k s h1
  · obtain ⟨s3, rk3, h3, rfl, _⟩ := hSD k1 s1 h1
    obtain ⟨s4, rk4, h4, rfl, _⟩ := hSD k2 s2 h2
    exact h.dist k1 k2 s3 s4 h3 h4 e
  · rw [hlen] at hy; rw [hw.size] at hb; exact h.tags b hb y hy
  · have hwg := h.wg
    rw [hm] at hwg
    unfold WgOK at hwg ⊢
    simp only at hwg ⊢
    rw [eal]
    refine ⟨hwg.1.of_block hwgb, fun s2 h2 => ?_⟩
    obtain ⟨k, hk⟩ := List.getElem?_of_mem h2
    obtain ⟨s, rk, h1, rfl, _⟩ := hSD k s2 hk
    exact hwg.2 s (List.mem_of_getElem? h1)
  · obtain ⟨k, hk⟩ := List.getElem?_of_mem h2
    obtain ⟨s, rk, h1, rfl, _⟩ := hSD k s2 hk
    rfl

/-- MAIN STARTS A SENDER. -/
theorem PInv.spawn (h : PInv P ty Wg e AnchW Fin Old q0 tag SD m rm qo Sm gs w t) {F : Nat} {a' child : Goroutine} {c : Nat} {l : List Value} {rs : Rk} (hm : m = .go F)
    (hret : Retag Sm ⟨tag, Deaf t 0⟩ ⟨tag', Deaf t 0⟩) (hc : Open w c) (hct : tag' c = .sync) (hce : c ≠ e) (hcW : c ≠ Wg) (hcn : ∀ p ∈ SD.map Sd.snd, p.1 ≠ c) (hlen : SD.length < 2147483646)
    (hD : ∀ k, Deaf (t ++ u) k = Deaf t k)
    (hti : TI Old Wg q0 w.heap.size tag' (SD.map Sd.L ++ [(w.heap.size, none)]) (t ++ u))
    (hM : MOK P ty Wg e AnchW Fin w.heap.size (SD.map Sd.snd ++ [(c, l)]) ⟨tag', Deaf (t ++ u) 0⟩ w m' rm' a') (hm' : ∃ F', m' = .A F')
    (hS : SOK P ty Wg e ⟨q0 + SD.length, w.heap.size⟩ ⟨tag', Deaf (t ++ u) (q0 + SD.length)⟩ w ⟨c, w.heap.size, none, .run l, 0, false, rs⟩ child) :
    PInv P ty Wg e AnchW Fin Old q0 tag' (SD ++ [⟨c, w.heap.size, none, .run l, 0, false, rs⟩]) m' rm' qo w.heap.size ((gs.setIfInBounds 0 a').push child) w (t ++ u) := by
  have hq := h.hq
  have hgsz := h.size
  obtain ⟨F', rfl⟩ := hm'
  have hsame : ∀ b, tag b = .sync → tag' b = .sync := fun b hb => by
    rcases hret.2 b with h1 | ⟨h1, _⟩ | ⟨h1, _⟩ <;> simp only at h1
    · exact h1.trans hb
    · rw [hb] at h1; cases h1
    · rw [hb] at h1; cases h1
  have hlast : ∀ {k : Nat} {s2 : Sd}, (SD ++ [⟨c, w.heap.size, none, .run l, 0, false, rs⟩])[k]? = some s2 → (k < SD.length ∧ SD[k]? = some s2) ∨ (k = SD.length ∧ s2 = ⟨c, w.heap.size, none, .run l, 0, false, rs⟩) := by
    intro k s2 hk
    by_cases hlt : k < SD.length
    · rw [List.getElem?_append_left hlt] at hk; exact .inl ⟨hlt, hk⟩
    · rw [List.getElem?_append_right (by omega)] at hk
      have : k - SD.length = 0 := by
        rcases Nat.eq_zero_or_pos (k - SD.length) with h | h
        · exact h
        · rw [List.getElem?_eq_none (by simp; omega)] at hk; cases hk
      rw [this] at hk; simp at hk
      exact .inr ⟨by omega, hk.symm⟩
  have hgs : ∀ (k : Nat), k ≠ 0 → k < gs.size → ((gs.setIfInBounds 0 a').push child)[k]? = gs[k]? := by
    intro k hk hlt
    rw [Array.getElem?_push, if_neg (by simp; omega), Array.getElem?_setIfInBounds_ne (Ne.symm hk)]
  have hcs : ∀ (k : Nat) (s : Sd), SD[k]? = some s → s.c ≠ c := fun k s hk e => hcn (s.c, s.st.left) (List.mem_map.2 ⟨s, List.mem_of_getElem? hk, rfl⟩) e
  refine ⟨by simp; omega, h.hq, by simp; omega, fun k a hk0 hk ha => ?_, fun k hk => ?_, ⟨a', ?_, ?_⟩, fun k s2 hk => ?_, by rw [List.map_append]; exact hti, fun l hl => ?_, ⟨hsame Wg h.wgt.1, h.wgt.2⟩, ⟨hsame e h.et.1, h.et.2⟩, fun k s2 hk => ?_, fun k1 k2 s1 s2 h1 h2 e => ?_, Nat.le_refl _, fun b hb y hy => ?_, ⟨fun _ => h.eopen.1 (by rw [hm]; trivial), fun h => absurd trivial h⟩, ?_, (fun h => absurd trivial h), (fun e => by cases e), fun F k e => by cases e⟩
  · rw [hD]
    rw [hgs k (by omega) (by omega)] at ha
    exact h.old k a hk0 hk ha
  · rw [hD]; exact h.above k (by simp at hk; omega)
  · rw [Array.getElem?_push_lt (by simp; omega)]; simp
  · rw [List.map_append]; exact hM
  · rcases hlast hk with ⟨hlt, h3⟩ | ⟨rfl, rfl⟩
    · obtain ⟨a, ha, hs⟩ := h.snd k s2 h3
      refine ⟨a, by rw [hgs _ (by omega) (by omega)]; exact ha, ?_⟩
      rw [hD]
      exact hs.rely (hret.rel (x := ⟨q0 + k, s2.S⟩) (by show q0 + k ≠ 0; omega) w _) id id
    · refine ⟨child, ?_, hS⟩
      rw [← hgsz]
      have : (gs.setIfInBounds 0 a').size = gs.size := by simp
      rw [← this]; exact Array.getElem?_push_size
  · obtain ⟨b, h1, h2, h3⟩ := h.hold l hl
    exact ⟨b, h1, h2, hsame b h3⟩
  · rcases hlast hk with ⟨hlt, h3⟩ | ⟨rfl, rfl⟩
    · have := h.chans k s2 h3
      exact ⟨hsame _ this.1, this.2.1, this.2.2.1, Nat.le_trans this.2.2.2 h.hSm⟩
    · exact ⟨hct, hce, hcW, Nat.le_refl _⟩
  · rcases hlast h1 with ⟨hlt, h3⟩ | ⟨rfl, rfl⟩ <;> rcases hlast h2 with ⟨hlt', h4⟩ | ⟨rfl, rfl⟩
    · exact h.dist k1 k2 s1 s2 h3 h4 e
    · exact absurd e (hcs k1 s1 h3)
    · exact absurd e.symm (hcs k2 s2 h4)
    · rfl
  · simp at hy
    intro e
    rcases hret.2 b with h1 | ⟨_, h1 | h1, _⟩ | ⟨_, h1⟩ <;> simp only at h1
    · rw [h1] at e; exact h.tags b hb y (by omega) e
    · rw [h1] at e; cases e
    · rw [h1] at e; cases e
    · rw [h1] at e; cases e
  · have hwg := h.wg
    rw [hm] at hwg
    unfold WgOK at hwg ⊢
    simp only at hwg ⊢
    refine ⟨?_, fun s2 h2 => ?_⟩
    · have : al (SD ++ [⟨c, w.heap.size, none, .run l, 0, false, rs⟩]) = al SD + 1 := by simp [al, Stage.al]
      rw [this]; exact hwg.1
    · rcases List.mem_append.1 h2 with h3 | h3
      · exact hwg.2 s2 h3
      · simp at h3; subst h3; trivial
end
end Go.Proofs.Ytdajdembeacefaa.M

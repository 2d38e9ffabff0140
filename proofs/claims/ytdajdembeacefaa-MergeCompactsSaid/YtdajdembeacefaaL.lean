/-
  THE PHASE, 5: a sender at its script: its select, its close.
-/
import Derived.Test.YtdajdembeacefaaK
set_option linter.unusedSimpArgs false
set_option linter.unusedVariables false
namespace Go.Proofs.Ytdajdembeacefaa.M
open Go.Conc
open Go.ConcR (KK wgBlock WgAt stA smA rd wr mk)

section
variable {P : Program} {ty : TypeId} {Wg e : Nat} {AnchW Fin : Gh → Goroutine → World → Prop} {Old : Loc → Prop} {q0 : Nat} {tag : Nat → Tag} {SD : List Sd} {m : MSt} {rm : Rk} {qo : Nat → Nat} {Sm : Nat}
  {gs : Array Goroutine} {w : World} {t : Trace} {sl : Option (Nat × Nat)}

theorem offersAt_none {g : Goroutine} (h : g.offers = none) (r : Nat) (b : Bool) : offersAt g r b = [] := by
  unfold offersAt; rw [h]; cases g.status <;> rfl

/-- Where a goroutine of the phase stands. -/
theorem PInv.who (h : PInv P ty Wg e AnchW Fin Old q0 tag SD m rm qo Sm gs w t) {k : Nat} {a : Goroutine} (hk : gs[k]? = some a) : k = 0 ∨ (0 < k ∧ k < q0) ∨ ∃ j s, k = q0 + j ∧ SD[j]? = some s := by
  have hlt := (Array.getElem?_eq_some_iff.1 hk).1
  rw [h.size] at hlt
  by_cases h0 : k = 0
  · exact .inl h0
  by_cases h1 : k < q0
  · exact .inr (.inl ⟨by omega, h1⟩)
  · exact .inr (.inr ⟨k - q0, SD[k - q0], by omega, List.getElem?_eq_getElem (by omega)⟩)

theorem PInv.offT (h : PInv P ty Wg e AnchW Fin Old q0 tag SD m rm qo Sm gs w t) {k r : Nat} {a : Goroutine} (hk : gs[k]? = some a) (ho : offersAt a r true ≠ []) : ∃ j s, k = q0 + j ∧ SD[j]? = some s ∧ s.pk = true ∧ s.c = r := by
  rcases h.who hk with rfl | ⟨h0, h1⟩ | ⟨j, s, rfl, hj⟩
  · exfalso
    obtain ⟨a', ha', hM⟩ := h.main
    rw [hk] at ha'; cases ha'
    rcases hM.status with hr | ⟨F, j, rfl⟩ | ⟨_, _, hn⟩
    · exact ho (offersAt_of_not_blocked (by rw [hr]; simp) _ _)
    · obtain ⟨g, c, l, z, _, rfl, _⟩ := hM
      exact ho (offersAt_parked_recv' _ _ _ _ _)
    · exact ho (offersAt_none hn _ _)
  · exfalso
    have := (h.old k a h0 h1 hk).status
    exact ho (offersAt_of_not_blocked (by rcases this with h | h <;> rw [h] <;> simp) _ _)
  · refine ⟨j, s, rfl, hj, ?_⟩
    obtain ⟨a', ha', hS⟩ := h.snd j s hj
    rw [hk] at ha'; cases ha'
    cases hp : s.pk with
    | false => exact absurd (offersAt_of_not_blocked (by rcases hS.status hp with h | ⟨h, _⟩ <;> rw [h] <;> simp) _ _) ho
    | true =>
      unfold SOK at hS
      cases hst : s.st with
      | run l =>
        simp only [hst, hp] at hS
        obtain ⟨_, _, _, g, v, l', z, z2, _, rfl, _⟩ := hS
        rw [offersAt_sel] at ho
        by_cases hc : s.c = r
        · exact ⟨rfl, hc⟩
        · rw [if_neg hc] at ho; exact absurd rfl ho
      | clo => simp only [hst] at hS; rw [hp] at hS; cases hS.2.2.2.1
      | _ => simp only [hst] at hS; rw [hp] at hS; cases hS.2.2.1
theorem PInv.offF (h : PInv P ty Wg e AnchW Fin Old q0 tag SD m rm qo Sm gs w t) {k r : Nat} {a : Goroutine} (hk : gs[k]? = some a) (ho : offersAt a r false ≠ []) :
    (k = 0 ∧ ∃ F j s, m = .P F j ∧ SD[j]? = some s ∧ s.c = r) ∨ (∃ j s, k = q0 + j ∧ SD[j]? = some s ∧ s.pk = true ∧ r = e) := by
  rcases h.who hk with rfl | ⟨h0, h1⟩ | ⟨j, s, rfl, hj⟩
  · left
    obtain ⟨a', ha', hM⟩ := h.main
    rw [hk] at ha'; cases ha'
    rcases hM.status with hr | ⟨F, j, rfl⟩ | ⟨_, _, hn⟩
    · exact absurd (offersAt_of_not_blocked (by rw [hr]; simp) _ _) ho
    · obtain ⟨g, c, l, z, hsn, rfl, _⟩ := hM
      rw [List.getElem?_map] at hsn
      obtain ⟨s, hs, e2⟩ := Option.map_eq_some_iff.1 hsn
      simp only [Sd.snd, Prod.mk.injEq] at e2
      rw [offersAt_parked_recv] at ho
      by_cases hc : c = r
      · exact ⟨rfl, F, j, s, rfl, hs, e2.1.trans hc⟩
      · rw [if_neg hc] at ho; exact absurd rfl ho
    · exact absurd (offersAt_none hn _ _) ho
  · exfalso
    have := (h.old k a h0 h1 hk).status
    exact ho (offersAt_of_not_blocked (by rcases this with h | h <;> rw [h] <;> simp) _ _)
  · right
    refine ⟨j, s, rfl, hj, ?_⟩
    obtain ⟨a', ha', hS⟩ := h.snd j s hj
    rw [hk] at ha'; cases ha'
    cases hp : s.pk with
    | false => exact absurd (offersAt_of_not_blocked (by rcases hS.status hp with h | ⟨h, _⟩ <;> rw [h] <;> simp) _ _) ho
    | true =>
      unfold SOK at hS
      cases hst : s.st with
      | run l =>
        simp only [hst, hp] at hS
        obtain ⟨_, _, _, g, v, l', z, z2, _, rfl, _⟩ := hS
        rw [offersAt_sel'] at ho
        by_cases hc : e = r
        · exact ⟨rfl, hc.symm⟩
        · rw [if_neg hc] at ho; exact absurd rfl ho
      | clo => simp only [hst] at hS; rw [hp] at hS; cases hS.2.2.2.1
      | _ => simp only [hst] at hS; rw [hp] at hS; cases hS.2.2.1

/-- Nobody sends on 'enough'. -/
theorem PInv.no_send_e (h : PInv P ty Wg e AnchW Fin Old q0 tag SD m rm qo Sm gs w t) (i : Nat) : partners (gs.setIfInBounds i ph) e true = [] := by
  refine partners_nil fun k x hk => ?_
  rcases getElem?_stand gs i k x hk with ⟨_, rfl⟩ | ⟨_, hx⟩
  · exact offersAt_ph _ _
  · refine Classical.byContradiction fun ho => ?_
    obtain ⟨j, s, _, hj, _, hc⟩ := h.offT hx ho
    exact (h.chans j s hj).2.1 hc
/-- Nobody but main receives on a sender's channel. -/
theorem PInv.no_recv (h : PInv P ty Wg e AnchW Fin Old q0 tag SD m rm qo Sm gs w t) (i : Nat) {j : Nat} {s : Sd} (hj : SD[j]? = some s) (hP : ∀ F, m ≠ .P F j) : partners (gs.setIfInBounds i ph) s.c false = [] := by
  refine partners_nil fun k x hk => ?_
  rcases getElem?_stand gs i k x hk with ⟨_, rfl⟩ | ⟨_, hx⟩
  · exact offersAt_ph _ _
  · refine Classical.byContradiction fun ho => ?_
    rcases h.offF hx ho with ⟨_, F, k, s2, hm, hk2, hc⟩ | ⟨k, s2, _, hk2, _, hc⟩
    · have := h.dist k j s2 s hk2 hj hc
      subst this
      exact hP F hm
    · exact (h.chans j s hj).2.1 hc
theorem PInv.main_recv (h : PInv P ty Wg e AnchW Fin Old q0 tag SD m rm qo Sm gs w t) {i : Nat} (hi : i ≠ 0) {j : Nat} {s : Sd} (hj : SD[j]? = some s) {g : Goroutine} {z : Value} {sh : CommShape} (h0 : gs[0]? = some (parked g #[rcase s.c z] sh)) :
    partners (gs.setIfInBounds i ph) s.c false = [(0, 0)] := by
  have h0' : (gs.setIfInBounds i ph)[0]? = some (parked g #[rcase s.c z] sh) := stand_get (Ne.symm hi) h0
  rw [partners_one h0' fun k x hk hx => ?_]
  · rw [offersAt_parked_recv, if_pos rfl]; rfl
  · rcases getElem?_stand gs i k x hx with ⟨_, rfl⟩ | ⟨_, hx⟩
    · exact offersAt_ph _ _
    · refine Classical.byContradiction fun ho => ?_
      rcases h.offF hx ho with ⟨h1, _⟩ | ⟨k, s2, _, hk2, _, hc⟩
      · exact hk h1
      · exact (h.chans j s hj).2.1 hc
/-- Nobody but sender number j sends on its channel. -/
theorem PInv.sender_sends (h : PInv P ty Wg e AnchW Fin Old q0 tag SD m rm qo Sm gs w t) {j : Nat} {s : Sd} (hj : SD[j]? = some s) {g : Goroutine} {v z z2 : Value} (h0 : gs[q0 + j]? = some (parked g #[scase s.c v z, rcase e z2] .select)) :
    partners (gs.setIfInBounds 0 ph) s.c true = [(q0 + j, 0)] := by
  have hq := h.hq
  have h0' := stand_get (i := 0) (j := q0 + j) (by omega) h0
  rw [partners_one h0' fun k x hk hx => ?_]
  · rw [offersAt_sel, if_pos rfl]; rfl
  · rcases getElem?_stand gs 0 k x hx with ⟨_, rfl⟩ | ⟨_, hx⟩
    · exact offersAt_ph _ _
    · refine Classical.byContradiction fun ho => ?_
      obtain ⟨j', s', rfl, hj', _, hc⟩ := h.offT hx ho
      exact hk (by rw [h.dist j' j s' s hj' hj hc])
theorem PInv.sender_none (h : PInv P ty Wg e AnchW Fin Old q0 tag SD m rm qo Sm gs w t) {j : Nat} {s : Sd} (hj : SD[j]? = some s) (hp : s.pk = false) : partners (gs.setIfInBounds 0 ph) s.c true = [] := by
  refine partners_nil fun k x hk => ?_
  rcases getElem?_stand gs 0 k x hk with ⟨_, rfl⟩ | ⟨_, hx⟩
  · exact offersAt_ph _ _
  · refine Classical.byContradiction fun ho => ?_
    obtain ⟨j', s', _, hj', hp', hc⟩ := h.offT hx ho
    have := h.dist j' j s' s hj' hj hc
    subst this
    rw [hj] at hj'; cases hj'
    rw [hp] at hp'; cases hp'

theorem mrun {AnchW : Gh → Goroutine → World → Prop} {F S : Nat} {sn : List Snd} {O : Gh} {g : Goroutine} (h : MRun P ty Wg e AnchW F S sn O g w) : ∃ F', F = F' + 1 ∧ ∃ r, TreeR P x0 (MStop P ty Wg e AnchW (MRun P ty Wg e AnchW F') S sn) r O g w := by
  cases F with
  | zero => exact h.elim
  | succ F' => exact ⟨F', rfl, Tree.rank h⟩

theorem chan_put {c k s r s' r' : Nat} {tm : Bool} (hc : w.heap[c]? = some (.chan 0 #[] false s r tm)) : (Open w k → Open (w.setChan c 0 #[] false s' r' tm) k) ∧ (Shut w k → Shut (w.setChan c 0 #[] false s' r' tm) k) := by
  have hlt := (Array.getElem?_eq_some_iff.1 hc).1
  by_cases hk : c = k
  · subst hk
    exact ⟨fun _ => ⟨s', r', tm, by simp [World.setChan, hlt]⟩, fun ⟨_, _, _, h⟩ => by rw [hc] at h; cases h⟩
  · exact open_of fun _ => by simp [World.setChan, Array.getElem?_setIfInBounds_ne hk]

/-- The four words of a meeting. -/
theorem ti_meet (h : PInv P ty Wg e AnchW Fin Old q0 tag SD m rm qo Sm gs w t) {u : Trace} {c : Nat} (hc : c < w.heap.size)
    (hu : ∀ op ∈ u, op.g < q0 + SD.length ∧ ((∃ s, op.act = .send c s) ∨ (∃ r k, op.act = .recv c r k) ∨ (∃ s, op.act = .sendDone c s) ∨ (∃ s, op.act = .recvDone c s) ∨ op.act = .recvClosed c)) :
    TI Old Wg q0 w.heap.size tag (SD.map Sd.L) (t ++ u) ∧ ∀ op ∈ u, ∀ m, op.act ≠ .mark m := by
  refine ⟨h.ti.quiet (fun op hop => by rw [List.length_map]; exact (hu op hop).1) (fun op hop => ?_) (fun op hop => ?_) (fun op hop ad => ?_), fun op hop m => ?_⟩ <;>
    rcases (hu op hop).2 with ⟨_, e⟩ | ⟨_, _, e⟩ | ⟨_, e⟩ | ⟨_, e⟩ | e <;> rw [e] <;> first | rfl | exact hc | simp

theorem ti_meet4 (h : PInv P ty Wg e AnchW Fin Old q0 tag SD m rm qo Sm gs w t) {i k c : Nat} (hc : c < w.heap.size) (hi : i < q0 + SD.length) (hk : k < q0 + SD.length) (fi : FuncId) (pi : String) (fk : FuncId) (pk : String) (s r : Nat) :
    TI Old Wg q0 w.heap.size tag (SD.map Sd.L) (t ++ #[{ g := i, fn := fi, pos := pi, act := .send c s }, { g := k, fn := fk, pos := pk, act := .recv c r 0 }, { g := i, fn := fi, pos := pi, act := .sendDone c s }, { g := k, fn := fk, pos := pk, act := .recvDone c r }]) ∧
    ∀ op ∈ (#[{ g := i, fn := fi, pos := pi, act := .send c s }, { g := k, fn := fk, pos := pk, act := .recv c r 0 }, { g := i, fn := fi, pos := pi, act := .sendDone c s }, { g := k, fn := fk, pos := pk, act := .recvDone c r }] : Trace), ∀ m, op.act ≠ .mark m := by
  refine ti_meet h hc fun op hop => ?_
  simp only [List.mem_toArray, List.mem_cons, List.not_mem_nil, or_false] at hop
  rcases hop with rfl | rfl | rfl | rfl
  · exact ⟨hi, .inl ⟨_, rfl⟩⟩
  · exact ⟨hk, .inr (.inl ⟨_, _, rfl⟩)⟩
  · exact ⟨hi, .inr (.inr (.inl ⟨_, rfl⟩))⟩
  · exact ⟨hk, .inr (.inr (.inr (.inl ⟨_, rfl⟩)))⟩

theorem nil_ops (i : Nat) (fn : FuncId) (pos : String) : MemOp.ofEvents i fn pos #[] = #[] := by rw [ofEvents_eq]; simp

/-- THE SENDER AT ITS SCRIPT. -/
theorem sender_run (h : PInv P ty Wg e AnchW Fin Old q0 tag SD m rm qo Sm gs w t) {j : Nat} {s : Sd} {a : Goroutine} (hj : SD[j]? = some s) (hi : gs[q0 + j]? = some a) (hrun : a.status = .running)
    (hS : SOK P ty Wg e ⟨q0 + j, s.S⟩ ⟨tag, Deaf t (q0 + j)⟩ w s a) {l : List Value} (hst : s.st = .run l) : Nx P ty Wg e AnchW Fin Old q0 SD m rm qo gs w t sl (q0 + j) := by
  have hq := h.hq
  have hi0 : (q0 + j == 0) = false := by simp; omega
  have hil := (Array.getElem?_eq_some_iff.1 hi).1
  have hL : ∀ s' : Sd, s'.S = s.S → s'.rel = s.rel → (SD.set j s').map Sd.L = SD.map Sd.L := fun s' h1 h2 => map_set_same _ hj (by simp [Sd.L, h1, h2])
  unfold SOK at hS
  simp only [hst] at hS
  obtain ⟨h1, h2, h3, h4⟩ := hS
  have hpk : s.pk = false := by
    cases hp : s.pk with
    | false => rfl
    | true =>
      simp only [hp] at h4
      obtain ⟨g, v, l', z, z2, _, rfl, _⟩ := h4
      cases hrun
  simp only [hpk] at h4
  obtain ⟨g, o, rfl, hg, hT⟩ := h4
  have same : ∀ w, stepG P false { g with offers := o } w = stepG P false g w := fun w => stepG_same rfl rfl rfl w
  rcases hT.cases with ⟨hr, hs⟩ | ⟨_, hs⟩
  · cases l with
    | nil =>
      obtain ⟨_, hd, hmw, hc⟩ := hs _ _ (Rel.refl _ _ _)
      obtain ⟨sc, rc, tm, hch⟩ := h3
      obtain ⟨g', hstep, hg', hT'⟩ := hc sc rc tm hch
      obtain ⟨r', hr'⟩ := hT'.rank
      have hcs := (h.chans j s hj).1
      refine sender_act (s' := ⟨s.c, s.S, s.rel, .clo, 0, false, r'⟩) h hj hi ((same w).trans hstep) (STurn.put hcs (by simp) (chan_shape hch)) (fun c _ hne => open_of fun _ => shut_ne hne) rfl rfl (.inl (by rw [hst]; rfl)) rfl ?_ (h.wg.keep hj (.inr ⟨by rw [hst]; rfl, rfl⟩) (shut_ne (Ne.symm (h.chans j s hj).2.2.1))) (.inr ⟨by rw [hst]; simp [Stage.wt], by rw [hst]; rfl⟩) (fun _ => .inl ⟨_, mem_set_self hj, by simp⟩) (fun F _ => ⟨shutOf hch, hmw, hg'⟩) ⟨h1, rfl, shutOf hch, rfl, ?_⟩
      · rw [map_set_same Sd.L hj]
        · refine h.ti.add (Nat.le_refl _) (fun _ _ => rfl) (S := s.S) (adds_sync (fun x hx => ?_) _ _) hq h.hold (.inr ⟨j, none, rfl, by rw [List.getElem?_map, hj]; simp [Sd.L, h1]⟩) (fun k S r' ek hk => ?_)
          · simp [closeEv] at hx
            have hlt := (Array.getElem?_eq_some_iff.1 hch).1
            rcases hx with rfl | rfl <;> exact .inr (.inr ⟨_, _, rfl, hlt, hcs⟩)
          · obtain rfl : j = k := by omega
            rw [List.getElem?_map, hj] at hk; simp [Sd.L, h1] at hk
        · rfl
      · rw [deaf_close]; exact hr'
    | cons v l =>
      obtain ⟨_, hoff, z, z2, hstep, hnx⟩ := hs _ _ (Rel.refl _ _ _)
      have hcomm : stepG P (q0 + j == 0) { g with offers := o } w = .comm g #[scase s.c v z, rcase e z2] true .select w #[] := by rw [hi0]; exact (same w).trans (hstep w)
      obtain ⟨sc, rc, tm, hch⟩ := h3
      have hcl := (Array.getElem?_eq_some_iff.1 hch).1
      have hjl := (List.getElem?_eq_some_iff.1 hj).1
      by_cases hm : m.early
      · obtain ⟨se, re, te, hce⟩ := h.eopen.1 hm
        by_cases hmp : ∃ F, m = .P F j
        · -- main waits there
          obtain ⟨F, rfl⟩ := hmp
          obtain ⟨am, ham, hM⟩ := h.main
          obtain ⟨gm, c, lm, zm, hsn, rfl, hgm, hgmo, hgms, hnxm⟩ := hM
          rw [List.getElem?_map, hj] at hsn
          simp only [Option.map_some, Option.some.injEq, Sd.snd, Prod.mk.injEq, hst, Stage.left] at hsn
          obtain ⟨rfl, rfl⟩ := hsn
          have hmeet := sel_send_meets (sl := sl) hi hcomm hch hce (by omega : 0 ≠ q0 + j) ham (h.main_recv (by omega) hj ham) (h.no_send_e _)
          rw [nil_ops, Array.empty_append] at hmeet
          have hw : STurn tag w (w.setChan s.c 0 #[] false (sc + 1) (rc + 1) tm) := STurn.put (h.chans j s hj).1 (by simp) (chan_shape hch)
          obtain ⟨hti, hnm⟩ := ti_meet4 h (i := q0 + j) (k := 0) hcl (by omega) (by omega) g.frame.fn g.frame.place gm.frame.fn gm.frame.place sc rc
          obtain ⟨rs, hrs⟩ := (SRun_eq P ty Wg e ⟨q0 + j, s.S⟩ s.c l ▸ (hnx _ _ (hw.rel ⟨q0 + j, s.S⟩ (Deaf t (q0 + j)))).1 : Tree P _ _ _ _ _).rank
          obtain ⟨F', rfl, rm', hrm⟩ := mrun (hnxm _ _ (hw.rel x0 (Deaf t 0)))
          refine ⟨_, _, _, tag, _, .A F', rm', qo, Sm, hmeet, h.meet (rs := rs) hj hst trivial (fun F e => by cases e) (by simp) (by
              rw [Array.getElem?_setIfInBounds_ne (by omega), Array.getElem?_setIfInBounds_self_of_lt (by omega)]) (by rw [Array.getElem?_setIfInBounds_self_of_lt (by simp; omega)]) (fun k a hk0 hkj ha => by
              rw [Array.getElem?_setIfInBounds_ne (Ne.symm hkj), Array.getElem?_setIfInBounds_ne (Ne.symm hk0)]; exact ha) hw (fun c => chan_put hch) ?_ hnm (by rw [hw.size]; exact hti) ?_ ?_, mu_fu (by simp [MSt.fu]) _⟩
          · simp [World.setChan, Array.getElem?_setIfInBounds_ne (h.chans j s hj).2.2.1]
          · rw [deaf_nomark hnm]
            exact ⟨_, none, rfl, rfl, hrm⟩
          · rw [deaf_nomark hnm]
            refine ⟨h1, h2, (chan_put hch).1 ⟨sc, rc, tm, hch⟩, _, none, rfl, rfl, hrs⟩
        · -- it waits
          have hP : ∀ F, m ≠ .P F j := fun F e => hmp ⟨F, e⟩
          have hwait := crowd_waits (sl := sl) hi hcomm (fun cc hcc => by
            simp only [List.mem_toArray, List.mem_cons, List.not_mem_nil, or_false] at hcc
            rcases hcc with rfl | rfl
            · exact ways_send_none hch (Nat.zero_le _) (h.no_recv _ hj hP)
            · exact ways_recv_none hce (h.no_send_e _))
          rw [nil_ops] at hwait
          obtain ⟨m', rm', hPI, hf, hww⟩ := h.turnS (u := #[]) (tag' := tag) (s' := { s with pk := true, rk := .z }) hj (turned_set (w' := w) hil) rfl rfl (.inl rfl) (fun x d _ => Rel.refl _ _ _) (fun c _ _ => ⟨id, id⟩) (by simp)
            (by
              rw [Array.append_empty]
              unfold SOK; simp only [hst]
              exact ⟨h1, h2, ⟨sc, rc, tm, hch⟩, g, v, l, z, z2, rfl, rfl, hg, hoff, hstep, hnx⟩)
            (by rw [map_set_same Sd.L hj, Array.append_empty]; exact h.ti; rfl) (Nat.le_refl _) (fun _ _ => rfl) (fun b hb hb' y hy => by omega) (h.wg.keep hj (.inl rfl) rfl) (fun _ => hm) (fun em => by rw [em] at hm; exact hm.elim) (fun F em => absurd em (hP F))
          exact ⟨_, _, _, _, _, m', rm', qo, Sm, hwait, hPI, mu_rk hf hww hj rfl rfl hr⟩
      · -- 'enough' is closed
        obtain ⟨se, re, te, hce⟩ := h.eopen.2 hm
        have hP : ∀ F, m ≠ .P F j := fun F em => by rw [em] at hm; exact hm trivial
        have hgo := crowd_sel_recv_closed (k := 1) (sl := sl) hi hcomm rfl (fun k c' hk hc' => by
          rcases k with _ | _ | k
          · simp at hc'; subst hc'
            exact ways_send_none hch (Nat.zero_le _) (h.no_recv _ hj hP)
          · exact absurd rfl hk
          · simp at hc') hce (h.no_send_e _)
        rw [nil_ops, Array.empty_append] at hgo
        have e3 : g.finishComm P #[scase s.c v z, rcase e z2] .select ((1 : Nat) : Int) z2 false = Go.Conc.served g (selShut z2) := finish_sel1 P g s.c e v z z2
        rw [e3] at hgo
        have hel := (Array.getElem?_eq_some_iff.1 hce).1
        obtain ⟨hti, hnm⟩ := ti_meet h (u := #[{ g := q0 + j, fn := g.frame.fn, pos := g.frame.place, act := .recvClosed e }]) hel (fun op hop => by
          simp at hop; subst hop
          exact ⟨by simp; omega, .inr (.inr (.inr (.inr rfl)))⟩)
        obtain ⟨rs, hrs⟩ := (hnx _ _ (Rel.refl _ _ _)).2.rank
        obtain ⟨m', rm', hPI, hf, hww⟩ := h.turnS (u := #[{ g := q0 + j, fn := g.frame.fn, pos := g.frame.place, act := .recvClosed e }]) (tag' := tag) (s' := { s with st := .run [], pk := false, rk := rs }) hj (turned_set (w' := w) hil) rfl rfl (.inr hm) (fun x d _ => Rel.refl _ _ _) (fun c _ _ => ⟨id, id⟩) (by simp)
            (by
              rw [deaf_nomark hnm]
              exact ⟨h1, h2, ⟨sc, rc, tm, hch⟩, _, none, rfl, rfl, hrs⟩)
            (by rw [map_set_same Sd.L hj]; exact hti; rfl) (Nat.le_refl _) (fun _ _ => rfl) (fun b hb hb' y hy => by omega) (h.wg.keep hj (.inr ⟨by rw [hst]; rfl, rfl⟩) rfl) (fun hh => by cases hh) (fun em => .inl ⟨_, mem_set_self hj, by simp⟩) (fun F em => absurd em (hP F))
        exact ⟨_, _, _, _, _, m', rm', qo, Sm, hgo, hPI, mu_wt hf hww hj (.inr ⟨by rw [hst]; simp [Stage.wt], by rw [hst]; rfl⟩)⟩
  · obtain ⟨g', w', es, O', r', hr, hstep, hm, hT'⟩ := hs _ _ (Rel.refl _ _ _)
    refine sender_own h hj hi ((same w).trans (by simpa [hi0] using hstep)) hm hr h1 hpk (by rw [hst]; simp) fun ho hs => ?_
    unfold SOK; simp only [hst, hpk]
    refine ⟨h1, h2, ho h3, g', g'.offers, rfl, hT'.running fun O g w hh => ?_, hT'⟩
    cases l <;> exact hh.1

theorem sender_step (h : PInv P ty Wg e AnchW Fin Old q0 tag SD m rm qo Sm gs w t) {j : Nat} {s : Sd} {a : Goroutine} (hj : SD[j]? = some s) (hi : gs[q0 + j]? = some a) (hrun : a.status = .running) : Nx P ty Wg e AnchW Fin Old q0 SD m rm qo gs w t sl (q0 + j) := by
  obtain ⟨a', ha', hS⟩ := h.snd j s hj
  rw [hi] at ha'; cases ha'
  cases hst : s.st with
  | run l => exact sender_run h hj hi hrun hS hst
  | _ => exact sender_late h hj hi hrun hS (fun l => by rw [hst]; simp)

theorem leaver_step (h : PInv P ty Wg e AnchW Fin Old q0 tag SD m rm qo Sm gs w t) {i : Nat} {a : Goroutine} (h0 : 0 < i) (hiq : i < q0) (hi : gs[i]? = some a) (hrun : a.status = .running) : Nx P ty Wg e AnchW Fin Old q0 SD m rm qo gs w t sl i := by
  obtain ⟨q', hq', g', es, hmu, hstep, hQ⟩ := status_running_gone (h.old i a h0 hiq hi) hrun
  have hlt := (Array.getElem?_eq_some_iff.1 hi).1
  have hi0 : (i == 0) = false := by simp; omega
  have hrunT := runT_crowd_go (P := P) (sl := sl) hi (by rw [hi0]; exact hstep w)
  obtain ⟨m', rm', hP, hf, hw⟩ := h.turnL (u := MemOp.ofEvents i a.frame.fn a.frame.place es) (k := q') h0 hiq (turned_woken (w' := w) hlt) ofEvents_g (by rw [Deaf_own]; exact hQ) (by
    refine h.ti.quiet (fun op hop => ?_) (fun op hop => ?_) (fun op hop => ?_) (fun op hop => ?_)
    · rw [ofEvents_g op hop]; omega
    · obtain ⟨x, hx, rfl⟩ := Go.Conc.mem_ofEvents hop; exact touch_mute (hmu x hx)
    · obtain ⟨x, hx, rfl⟩ := Go.Conc.mem_ofEvents hop; exact low_mute (hmu x hx) _
    · exact fun ad => (adds_sync (tag := tag) (n := w.heap.size) (y := i) (S := 0) (es := es) (fun e he => .inl (hmu e he)) a.frame.fn a.frame.place).norel ad op hop)
  exact ⟨_, _, _, _, _, m', rm', _, Sm, hrunT, hP, mu_leave hf hw hiq hq'⟩
end
end Go.Proofs.Ytdajdembeacefaa.M

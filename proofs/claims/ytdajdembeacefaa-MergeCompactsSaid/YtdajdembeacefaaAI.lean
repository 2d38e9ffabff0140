/-
  THE CALCULUS, 12: a region that draws its order, whose last operation hangs on all others: whatever the order, it comes last.
-/
import Derived.Test.YtdajdembeacefaaAH
set_option linter.unusedSimpArgs false
set_option linter.unusedVariables false
namespace Go.Proofs.Ytdajdembeacefaa.M
open Go.Conc

/-- Each operation but the last is looked at by a later one. -/
def okLast (all : List Oper) : Bool :=
  (List.range (all.length - 1)).all fun j => (List.range all.length).any fun k => decide (j < k) && match all[k]? with
    | none => false
    | some o => o.after.toList.any fun e => e.on == j && Region.binds .any e
/-- What is listed is closed. -/
def Closed (all : List Oper) (listed : Array Bool) : Prop :=
  ∀ (j : Nat) (o : Oper), all[j]? = some o → listed.getD j false = true → ∀ e ∈ o.after, Region.binds .any e = true → listed.getD e.on false = true
theorem okLast_all {all : List Oper} (hl : okLast all = true) {listed : Array Bool} (hc : Closed all listed) {o : Oper} (ho : all[all.length - 1]? = some o) (hr : ∀ e ∈ o.after, Region.binds .any e = true → listed.getD e.on false = true) :
    ∀ m j, j + m + 1 = all.length → j < all.length - 1 → listed.getD j false = true := by
  intro m
  induction m using Nat.strongRecOn with
  | _ m ih =>
    intro j hm hj
    unfold okLast at hl
    rw [List.all_eq_true] at hl
    have h1 := hl j (List.mem_range.2 hj)
    rw [List.any_eq_true] at h1
    obtain ⟨k, hk, h1⟩ := h1
    have hk := List.mem_range.1 hk
    simp only [Bool.and_eq_true, decide_eq_true_eq] at h1
    obtain ⟨hjk, h1⟩ := h1
    cases hok : all[k]? with
    | none => rw [hok] at h1; cases h1
    | some ok =>
      rw [hok] at h1
      simp only at h1
      rw [List.any_eq_true] at h1
      obtain ⟨e, he, h2⟩ := h1
      simp only [Bool.and_eq_true, beq_iff_eq] at h2
      obtain ⟨rfl, hb⟩ := h2
      have he' := Array.mem_toList_iff.1 he
      by_cases hkl : k = all.length - 1
      · subst hkl; rw [ho] at hok; cases hok; exact hr e he' hb
      · exact hc k ok hok (ih (all.length - k - 1) (by omega) k (by omega) (by omega)) e he' hb

section
variable {x : Th} {St : Gh → Goroutine → World → Prop} {O : Gh} {w : World} {b : Frame} {n : Nat} {f : Nat → Value} {ds : List Deferred} {k : List Item} {cs : List Frame} {all : List Oper}

/-- What the table says of an operation that only reads. -/
def RdOK (x : Th) (O : Gh) (w : World) (n : Nat) (f : Nat → Value) (all : List Oper) (o : Oper) (v : Value) : Prop :=
  (Region.wanted o (yielded all.toArray (mkT n f)) = false ∧ v = undef) ∨ (Region.wanted o (yielded all.toArray (mkT n f)) = true ∧ runL P (ldOf x O w) (execOp (ev n f) o) = some (.value v))
def TabR (x : Th) (O : Gh) (w : World) (n : Nat) (all : List Oper) : List Oper → (Nat → Value) → (Nat → Value) → Prop
  | [], _, _ => False
  | [_], f, F => F = f
  | o :: o2 :: os, f, F => ∃ d v, o.dst = some d ∧ RdOK x O w n f all o v ∧ TabR x O w n all (o2 :: os) (upd f d v) F
theorem TabR.off : ∀ {os : List Oper} {f F : Nat → Value}, TabR x O w n all os f F → ∀ t, (∀ o ∈ os.dropLast, o.dst ≠ some t) → F t = f t
  | [], _, _, h, _, _ => h.elim
  | [_], _, _, h, t, _ => by rw [show _ = _ from h]
  | o :: o2 :: os, f, F, ⟨d, v, hd, _, h⟩, t, ht => by
    have h1 := TabR.off h t fun o' ho' => ht o' (by simp only [List.dropLast_cons_cons, List.mem_cons]; exact .inr ho')
    rw [h1]; unfold upd
    rw [if_neg fun e => ht o (by simp [List.dropLast_cons_cons]) (by rw [hd, e])]
/-- Each operation but the last, in the table's slots. -/
theorem TabR.ok (hok : okDraw all = true) : ∀ (os : List Oper) (i : Nat) (f F : Nat → Value), all.drop i = os → TabR x O w n all os f F →
    ∀ (j : Nat) (o : Oper), i ≤ j → j + 1 < all.length → all[j]? = some o → ∃ d, o.dst = some d ∧ RdOK x O w n F all o (F d)
  | [], i, f, F, e, h, j, o, hij, hjl, hj => h.elim
  | [_], i, f, F, e, h, j, o, hij, hjl, hj => by
    have := congrArg List.length e
    simp at this
    omega
  | o' :: o2 :: os, i, f, F, e, ⟨d, v, hd, hop, h⟩, j, o, hij, hjl, hj => by
    obtain ⟨e1, e2⟩ := drop_get e
    rcases Nat.eq_or_lt_of_le hij with rfl | hlt
    · have ho : o = o' := by
        have : all[i]? = some o' := by simpa using e1
        rw [this] at hj; exact (Option.some.inj hj).symm
      subst ho
      obtain ⟨hb, hsel, hself, hdep⟩ := okDraw_at hok hj
      have later : ∀ o3 ∈ o2 :: os, ∃ k : Nat, i < k ∧ all[k]? = some o3 := by
        intro o3 ho3
        obtain ⟨m, hm⟩ := List.getElem?_of_mem ho3
        rw [← e2, List.getElem?_drop] at hm
        exact ⟨i + 1 + m, by omega, hm⟩
      have hFd : F d = v := by
        rw [TabR.off h d fun o3 ho3 hd2 => ?_]
        · simp [upd]
        · obtain ⟨k2, hk2, hk3⟩ := later o3 (List.dropLast_subset _ ho3)
          exact (hdep k2 d (by omega) (by rw [hk3]; exact hd2)).1 hd
      have hlook : ∀ t ∈ o.looksAt all.toArray, F t = f t := by
        intro t ht
        have htd : t ≠ d := fun e => hself d hd (e ▸ ht)
        rw [TabR.off h t fun o3 ho3 hd2 => ?_]
        · simp [upd, htd]
        · obtain ⟨k2, hk2, hk3⟩ := later o3 (List.dropLast_subset _ ho3)
          obtain ⟨ed, he, hon, hbn⟩ := (hdep k2 t (by omega) (by rw [hk3]; exact hd2)).2 ht
          have := hb ed he hbn
          omega
      have hopd : ∀ y ∈ o.op.operands, ev n F y = ev n f y := fun y hy => ev_congr fun t e => hlook t (by
        subst e; exact List.mem_append_left _ (List.mem_filterMap.2 ⟨.tmp t, by simpa using hy, rfl⟩))
      have hwant : Region.wanted o (yielded all.toArray (mkT n F)) = Region.wanted o (yielded all.toArray (mkT n f)) := by
        unfold Region.wanted
        cases hg : o.guard with
        | none => rfl
        | some q =>
          obtain ⟨j, z⟩ := q
          simp only [yielded_mkT]
          cases hdj : (all.toArray[j]?).bind (·.dst) with
          | none => rfl
          | some dj =>
            simp only
            have : dj ∈ o.looksAt all.toArray := List.mem_append_right _ (by rw [hg]; simp only; rw [hdj]; simp)
            rw [hlook dj this]
      refine ⟨d, hd, ?_⟩
      unfold RdOK
      rw [hwant, execOp_congr o hsel hopd, hFd]
      exact hop
    · exact TabR.ok hok (o2 :: os) (i + 1) _ F e2 h j o hlt hjl hj

/-- THE REGION: its last operation comes last. -/
theorem t_drawLast0 {id : Nat} (F : Nat → Value) (hok : okDraw all = true) (hla : okLast all = true) (hk : b.kind ≠ .early) (hne : all ≠ [])
    (hF : ∀ t, (∀ k : Nat, k + 1 < all.length → (all[k]?).bind (·.dst) ≠ some t) → F t = f t)
    (hops : ∀ (i : Nat) (o : Oper), i + 1 < all.length → all[i]? = some o → ∃ d, o.dst = some d ∧ RdOK x O w n F all o (F d))
    (h : ∀ O1 w1, Rel x O w O1 w1 → Tree P x St O1 (G (Fr b n F ds (.inRegion all.toArray [all.length - 1] :: k)) cs) w1) :
    Tree P x St O (G (Fr b n f ds (.code (.region id all.toArray true) :: k)) cs) w := by
  have hpos : 0 < all.length := List.length_pos_iff.2 hne
  have key : ∀ (l : List Nat) (listed : Array Bool), Lin all.toArray listed l → listed.size = all.length → Closed all listed → listed.getD (all.length - 1) false = false → ∀ (g : Nat → Value) (O1 : Gh) (w1 : World), Rel x O w O1 w1 →
      (∀ (i : Nat) (d : Tmp), i + 1 < all.length → (all[i]?).bind (·.dst) = some d → listed.getD i false = true → g d = F d) → (∀ t, (∀ k : Nat, k + 1 < all.length → (all[k]?).bind (·.dst) ≠ some t) → g t = F t) →
      Tree P x St O1 (G (Fr b n g ds (.inRegion all.toArray l :: k)) cs) w1 := by
    intro l listed hl
    induction hl with
    | @nil listed hr =>
      intro hs hc hlast g O1 w1 r h1 h2
      have := all_listed hok hs hr (all.length - 1) (by omega)
      rw [hlast] at this; cases this
    | @cons listed i l hi htail ih =>
      intro hs hc hlast g O1 w1 r h1 h2
      have hi' := hi
      have hil : listed.getD i false = false := by rw [Array.getD_eq_getD_getElem?, ready_get (by simpa using hs) hi]; rfl
      rw [mem_ready] at hi'
      obtain ⟨_, o, ho, hed⟩ := hi'
      have ho' : all[i]? = some o := by simpa using ho
      have hlt := (List.getElem?_eq_some_iff.1 ho').1
      obtain ⟨hb, hsel, hself', hdep⟩ := okDraw_at hok ho'
      by_cases hil2 : i = all.length - 1
      · -- the last one: all others are listed
        have hall := okLast_all hla hc (by rw [← hil2]; exact ho') hed
        have hl0 : l = [] := by
          cases htail with
          | nil _ => rfl
          | @cons _ i' l' hi2 _ =>
            have h3 := ready_get (by simpa using hs) hi2
            rw [mem_ready] at hi2
            obtain ⟨_, o3, ho3, _⟩ := hi2
            have hlt3 := (Array.getElem?_eq_some_iff.1 ho3).1
            simp only [List.size_toArray] at hlt3
            by_cases he : i' = i
            · subst he
              rw [Array.getElem?_setIfInBounds_self_of_lt (by omega)] at h3
              simp at h3
            · rw [Array.getElem?_setIfInBounds_ne (Ne.symm he)] at h3
              have h4 := hall (all.length - 1 - i') i' (by omega) (by omega)
              rw [Array.getD_eq_getD_getElem?, h3] at h4
              cases h4
        subst hl0
        have hgF : g = F := by
          funext t
          by_cases ht : ∃ k : Nat, k + 1 < all.length ∧ (all[k]?).bind (·.dst) = some t
          · obtain ⟨k, hk1, hk2⟩ := ht
            exact h1 k t hk1 hk2 (hall (all.length - 1 - k) k (by omega) (by omega))
          · exact h2 t fun k hk1 hk2 => ht ⟨k, hk1, hk2⟩
        subst hgF
        rw [hil2]
        exact h O1 w1 r
      · obtain ⟨d, hd, hcase⟩ := hops i o (by omega) ho'
        have hd' : (all[i]?).bind (·.dst) = some d := by rw [ho']; exact hd
        have hlook : ∀ t ∈ o.looksAt all.toArray, g t = F t := by
          intro t ht
          have htd : t ≠ d := fun e => hself' d hd (e ▸ ht)
          by_cases hw : ∃ k : Nat, k + 1 < all.length ∧ (all[k]?).bind (·.dst) = some t
          · obtain ⟨k, hk1, hk2⟩ := hw
            by_cases hki : k = i
            · subst hki; rw [hd'] at hk2; exact absurd (Option.some.inj hk2).symm htd
            · obtain ⟨e, he, rfl, hbn⟩ := (hdep k t hki hk2).2 ht
              exact h1 e.on t hk1 hk2 (hed e he hbn)
          · exact h2 t fun k hk1 hk2 => hw ⟨k, hk1, hk2⟩
        have goOn : Tree P x St O1 (G (Fr b n (upd g d (F d)) ds (.inRegion all.toArray l :: k)) cs) w1 := by
          refine ih (by simpa using hs) (fun j oj hoj hj e he hbe => ?_) ?_ _ O1 w1 r (fun j t hjl hj hlj => ?_) (fun t ht => ?_)
          · by_cases hji : j = i
            · subst hji
              rw [ho'] at hoj; cases hoj
              have h5 := hed e he hbe
              by_cases hei : e.on = j
              · rw [hei] at h5
                rw [h5] at hil; cases hil
              · rw [getD_set_ne false (Ne.symm hei)]; exact h5
            · rw [getD_set_ne false (Ne.symm hji)] at hj
              have h5 := hc j oj hoj hj e he hbe
              by_cases hei : e.on = i
              · rw [hei] at h5; rw [h5] at hil; cases hil
              · rw [getD_set_ne false (Ne.symm hei)]; exact h5
          · rw [getD_set_ne false hil2]; exact hlast
          · unfold upd
            by_cases htd : t = d
            · simp [htd]
            · rw [if_neg htd]
              by_cases hji : j = i
              · subst hji; rw [hd'] at hj; exact absurd (Option.some.inj hj).symm htd
              · exact h1 j t hjl hj (by rw [getD_set_ne false (Ne.symm hji)] at hlj; exact hlj)
          · unfold upd
            by_cases htd : t = d
            · exact absurd (by rw [htd]; exact hd') (ht i (by omega))
            · rw [if_neg htd]; exact h2 t ht
        have hopd : ∀ y ∈ o.op.operands, ev n g y = ev n F y := fun y hy => ev_congr fun t e => hlook t (by
          subst e; exact List.mem_append_left _ (List.mem_filterMap.2 ⟨.tmp t, by simpa using hy, rfl⟩))
        have hwant : Region.wanted o (yielded all.toArray (mkT n g)) = Region.wanted o (yielded all.toArray (mkT n F)) := by
          unfold Region.wanted
          cases hg : o.guard with
          | none => rfl
          | some q =>
            obtain ⟨j, z⟩ := q
            simp only [yielded_mkT]
            cases hdj : (all.toArray[j]?).bind (·.dst) with
            | none => rfl
            | some dj =>
              simp only
              have : dj ∈ o.looksAt all.toArray := List.mem_append_right _ (by rw [hg]; simp only; rw [hdj]; simp)
              rw [hlook dj this]
        have hexec : execOp (ev n g) o = execOp (ev n F) o := execOp_congr o hsel hopd
        rcases hcase with ⟨hw, hu⟩ | ⟨hw, hr⟩
        · refine t_ctl rfl (fun w => ?_) (hu ▸ goOn)
          have := stepG_unwanted (P := P) (main := x.id == 0) (b := b) (a := ⟨mkT n g, ds⟩) (k := k) (cs := cs) (w := w) (rest := l) ho (by rw [hwant]; exact hw)
          rw [put_mkT, hd] at this
          exact this
        · refine t_readsE (f' := upd g d (F d)) hk [i] l g ?_ goOn
          have hr1 := runL_mono (fun _ _ h => ldOf_rely r h) _ _ hr
          simp only [evalOps, ho, hwant, hw, if_true, hexec, hr1, hd]
          rfl
  refine .step (fun O' g' w' => (∃ l, Lin all.toArray (Array.replicate all.length false) l ∧ g' = G (Fr b n f ds (.inRegion all.toArray l :: k)) cs) ∧ Rel x O w O' w') rfl (fun O1 w1 r => ?_) (fun O' g' w' h => ?_)
  · refine ⟨_, _, #[], O1, stepG_region_draw, Moves.drawn, ⟨_, by simpa using lin_schedule all.toArray _, rfl⟩, r.trans ⟨Nat.le_refl _, rfl, rfl, rfl, rfl, fun _ _ _ => rfl, fun _ _ _ h => h, fun _ _ _ => rfl, fun _ _ _ _ => rfl, fun _ _ _ h => ⟨h, rfl⟩, fun _ _ h => h, fun _ _ _ => rfl⟩⟩
  · obtain ⟨⟨l, hl, rfl⟩, r⟩ := h
    have hz : ∀ i, (Array.replicate all.length false).getD i false = false := fun i => by
      simp [Array.getD_eq_getD_getElem?, Array.getElem?_replicate]
      split <;> rfl
    exact key l _ hl (by simp) (fun j o hj h => by rw [hz] at h; cases h) (hz _) f O' w' r (fun i d _ _ h => by rw [hz] at h; cases h) (fun t ht => (hF t ht).symm)

def InLast (x : Th) (St : Gh → Goroutine → World → Prop) (O : Gh) (w : World) (b : Frame) (n : Nat) (f : Nat → Value) (ds : List Deferred) (all : List Oper) (k : List Item) (cs : List Frame) (i : Nat) (os : List Oper) : Prop :=
  ∃ F, TabR x O w n all os f F ∧ ∀ O1 w1, Rel x O w O1 w1 → Tree P x St O1 (G (Fr b n F ds (.inRegion all.toArray [all.length - 1] :: k)) cs) w1
theorem t_drawnL {id : Nat} (hok : okDraw all = true) (hla : okLast all = true) (hk : b.kind ≠ .early) (h : InLast x St O w b n f ds all k cs 0 all) : Tree P x St O (G (Fr b n f ds (.code (.region id all.toArray true) :: k)) cs) w := by
  obtain ⟨F, hT, h⟩ := h
  have hne : all ≠ [] := by intro e; rw [e] at hT; exact hT
  refine t_drawLast0 F hok hla hk hne (fun t ht => hT.off t fun o ho hd => ?_) (fun i o hi ho => TabR.ok hok all 0 f F rfl hT i o (Nat.zero_le _) hi ho) h
  obtain ⟨m, hm⟩ := List.getElem?_of_mem ho
  have hml := (List.getElem?_eq_some_iff.1 hm).1
  rw [List.length_dropLast] at hml
  rw [List.getElem?_dropLast, if_pos hml] at hm
  exact ht m (by omega) (by rw [hm]; exact hd)
variable {os : List Oper} {i : Nat} {o o2 : Oper} {d : Nat} {op : Op} {t : TypeId} {p : String} {e : Array Edge}
theorem l_last (hi : i + 1 = all.length) (h : ∀ O1 w1, Rel x O w O1 w1 → InReg P x St O1 w1 b n f ds all k cs i [o]) (ho : all[i]? = some o) : InLast x St O w b n f ds all k cs i [o] :=
  ⟨f, rfl, fun O1 w1 r => by
    have hd : all.drop i = [o] := by
      have hlt : i < all.length := by omega
      rw [List.drop_eq_getElem_cons hlt, List.drop_of_length_le (by omega)]
      have : all[i]? = some all[i] := List.getElem?_eq_getElem hlt
      rw [ho] at this; rw [Option.some.inj this]
    have := h O1 w1 r hd
    rw [show all.length - 1 = i by omega]
    exact this⟩
theorem InLast.cons {v : Value} (hd : o.dst = some d) (ho : RdOK x O w n f all o v) (h : InLast x St O w b n (upd f d v) ds all k cs (i + 1) (o2 :: os)) : InLast x St O w b n f ds all k cs i (o :: o2 :: os) := by
  obtain ⟨F, h1, h2⟩ := h
  exact ⟨F, ⟨d, v, hd, ho, h1⟩, h2⟩
theorem l_rd (h : ∀ K : Value → Prop, (∀ v, InLast x St O w b n (upd f d v) ds all k cs (i + 1) (o2 :: os) → K v) → opThen (runL P (ldOf x O w) (execOp (ev n f) ⟨some d, op, t, p, e, none⟩)) K) :
    InLast x St O w b n f ds all k cs i (⟨some d, op, t, p, e, none⟩ :: o2 :: os) := by
  have := h _ (fun _ h => h)
  cases hr : runL P (ldOf x O w) (execOp (ev n f) ⟨some d, op, t, p, e, none⟩) with
  | none => rw [hr] at this; exact this.elim
  | some z =>
    rw [hr] at this
    cases z with
    | value v => exact InLast.cons rfl (.inr ⟨rfl, hr⟩) this
    | _ => exact this.elim
end
end Go.Proofs.Ytdajdembeacefaa.M

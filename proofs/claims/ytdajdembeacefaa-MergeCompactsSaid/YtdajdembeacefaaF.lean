/-
  RANKS of walks (a walk is well-founded: each has a rank that each own step lowers), rows of ranks; two laws of communication that the library lacks: a select's send meets a parked receiver, a receive meets a parked select.
-/
import Derived.Test.YtdajdembeacefaaE
import Derived.Conc.CrowdComm
set_option linter.unusedSimpArgs false
set_option linter.unusedVariables false
namespace Go.Proofs.Ytdajdembeacefaa.M
open Go.Conc

inductive Rk where
  | z
  | s (f : Gh × World → Rk)

def Rk.lt (a b : Rk) : Prop := ∃ f, b = .s f ∧ (a = .z ∨ ∃ i, a = f i)
theorem Rk.wf : WellFounded Rk.lt := by
  constructor
  intro a
  induction a with
  | z => exact ⟨_, fun b ⟨f, h, _⟩ => by cases h⟩
  | s f ih =>
    refine ⟨_, fun b ⟨g, h, hb⟩ => ?_⟩
    cases h
    rcases hb with rfl | ⟨i, rfl⟩
    · exact ⟨_, fun b ⟨f, h, _⟩ => by cases h⟩
    · exact ih i

/-- One place of the row falls; the others stand. -/
inductive LStep : List Rk → List Rk → Prop
  | head {a b : Rk} {l : List Rk} : Rk.lt a b → LStep (a :: l) (b :: l)
  | tail {a : Rk} {l l' : List Rk} : LStep l l' → LStep (a :: l) (a :: l')
theorem LStep.acc : ∀ (l : List Rk), Acc LStep l
  | [] => ⟨_, fun _ h => by cases h⟩
  | a :: l => by
    have key : ∀ a, Acc Rk.lt a → ∀ l, Acc LStep l → Acc LStep (a :: l) := by
      intro a ha
      induction ha with
      | intro a _ iha =>
        intro l hl
        induction hl with
        | intro l hl' ihl =>
          refine ⟨_, fun y hy => ?_⟩
          cases hy with
          | head h => exact iha _ h l ⟨l, hl'⟩
          | tail h => exact ihl _ h
    exact key a (Rk.wf.apply a) l (LStep.acc l)
theorem LStep.wf : WellFounded LStep := ⟨LStep.acc⟩
theorem LStep.set {a : Rk} : ∀ {l : List Rk} {j : Nat} {b : Rk}, l[j]? = some b → Rk.lt a b → LStep (l.set j a) l
  | [], _, _, h, _ => by simp at h
  | x :: l, 0, b, h, hab => by simp at h; subst h; exact .head hab
  | x :: l, j + 1, b, h, hab => by rw [List.set_cons_succ]; exact .tail (LStep.set (by simpa using h) hab)

/-- A walk of rank r. -/
def TreeR (P : Program) (x : Th) (St : Gh → Goroutine → World → Prop) : Rk → Gh → Goroutine → World → Prop
  | .z => fun _ _ _ => False
  | .s f => fun O g w => (∀ O1 w1, Rel x O w O1 w1 → St O1 g w1) ∨
      (g.status = .running ∧ ∀ O1 w1, Rel x O w O1 w1 → ∃ g' w' es O', stepG P (x.id == 0) g w1 = .go g' w' es ∧ Moves x O1 w1 O' w' es ∧ TreeR P x St (f (O1, w1)) O' g' w')

section
variable {P : Program} {x : Th} {St : Gh → Goroutine → World → Prop} {O O1 : Gh} {g : Goroutine} {w w1 : World} {r : Rk}
theorem TreeR.rely (h : TreeR P x St r O g w) (s : Rel x O w O1 w1) : TreeR P x St r O1 g w1 := by
  cases r with
  | z => exact h.elim
  | s f =>
    rcases h with h | ⟨hs, h⟩
    · exact .inl fun O2 w2 t => h O2 w2 (s.trans t)
    · exact .inr ⟨hs, fun O2 w2 t => h O2 w2 (s.trans t)⟩
theorem Tree.rank (h : Tree P x St O g w) : ∃ r, TreeR P x St r O g w := by
  induction h with
  | stop h => exact ⟨.s fun _ => .z, .inl h⟩
  | @step O g w K hs h hK ih =>
    have key : ∀ p : Gh × World, ∃ r : Rk, ∀ (hr : Rel x O w p.1 p.2), ∃ g' w' es O', stepG P (x.id == 0) g p.2 = .go g' w' es ∧ Moves x p.1 p.2 O' w' es ∧ TreeR P x St r O' g' w' := by
      intro p
      by_cases hr : Rel x O w p.1 p.2
      · obtain ⟨g', w', es, O', h1, h2, h3⟩ := h p.1 p.2 hr
        obtain ⟨r, h4⟩ := ih O' g' w' h3
        exact ⟨r, fun _ => ⟨g', w', es, O', h1, h2, h4⟩⟩
      · exact ⟨.z, fun h => absurd h hr⟩
    exact ⟨.s fun p => (key p).choose, .inr ⟨hs, fun O1 w1 hr => (key (O1, w1)).choose_spec hr⟩⟩
theorem TreeR.tree : ∀ {r : Rk} {O : Gh} {g : Goroutine} {w : World}, TreeR P x St r O g w → Tree P x St O g w := by
  intro r
  induction r with
  | z => exact fun h => h.elim
  | s f ih =>
    intro O g w h
    rcases h with h | ⟨hs, h⟩
    · exact .stop h
    · exact .step (Tree P x St) hs (fun O1 w1 hr => by
        obtain ⟨g', w', es, O', h1, h2, h3⟩ := h O1 w1 hr
        exact ⟨g', w', es, O', h1, h2, ih _ h3⟩) (fun _ _ _ h => h)
/-- A walk is at a stop, or takes a step of its own that lowers its rank. -/
theorem TreeR.cases (h : TreeR P x St r O g w) : (Rk.lt .z r ∧ ∀ O1 w1, Rel x O w O1 w1 → St O1 g w1) ∨
    (g.status = .running ∧ ∀ O1 w1, Rel x O w O1 w1 → ∃ g' w' es O' r', Rk.lt r' r ∧ stepG P (x.id == 0) g w1 = .go g' w' es ∧ Moves x O1 w1 O' w' es ∧ TreeR P x St r' O' g' w') := by
  cases r with
  | z => exact h.elim
  | s f =>
    rcases h with h | ⟨hs, h⟩
    · exact .inl ⟨⟨f, rfl, .inl rfl⟩, h⟩
    · exact .inr ⟨hs, fun O1 w1 hr => by
        obtain ⟨g', w', es, O', h1, h2, h3⟩ := h O1 w1 hr
        exact ⟨g', w', es, O', _, ⟨f, rfl, .inr ⟨_, rfl⟩⟩, h1, h2, h3⟩⟩
end

/-! ### two laws of communication -/
section
variable {P : Program} {gs : Array Goroutine} {w w₁ : World} {sl : Option (Nat × Nat)} {i j : Nat} {g g₂ gj : Goroutine} {es : Array Event} {shape : CommShape}
  {c e s r s' r' : Nat} {tm tm' : Bool} {v z zj z2 : Value}

/-- What the select of a send and a receive hands over when its send is done; when its receive has found the channel closed. -/
def selSent (z2 : Value) : Value := .tuple #[.int .i64 0, .bool false, z2]
def selShut (z2 : Value) : Value := .tuple #[.int .i64 1, .bool false, z2]
theorem finish_sel0 (P : Program) (g : Goroutine) (c e : Nat) (v z z2 u : Value) : g.finishComm P #[scase c v z, rcase e z2] .select 0 u false = Go.Conc.served g (selSent z2) := by
  simp [Goroutine.finishComm, Go.Conc.served, commResult, selSent, scase, rcase, goInt]
theorem finish_sel1 (P : Program) (g : Goroutine) (c e : Nat) (v z z2 : Value) : g.finishComm P #[scase c v z, rcase e z2] .select 1 z2 false = Go.Conc.served g (selShut z2) := by
  simp [Goroutine.finishComm, Go.Conc.served, commResult, selShut, scase, rcase, goInt]

theorem offersAt_sel (g : Goroutine) (c e : Nat) (v z z2 : Value) (r : Nat) : offersAt (parked g #[scase c v z, rcase e z2] .select) r true = if c = r then [0] else [] := by
  simp [offersAt, parked, scase, rcase]
  by_cases h : c = r <;> simp [h]
theorem offersAt_sel' (g : Goroutine) (c e : Nat) (v z z2 : Value) (r : Nat) : offersAt (parked g #[scase c v z, rcase e z2] .select) r false = if e = r then [1] else [] := by
  simp [offersAt, parked, scase, rcase]
  by_cases h : e = r <;> simp [h]

/-- A SELECT's SEND MEETS THE ONE PARKED RECEIVER; its other case, a receive, can't proceed. -/
theorem sel_send_meets (hi : gs[i]? = some g) (h : stepG P (i == 0) g w = .comm g₂ #[scase c v z, rcase e z2] true .select w₁ es) (hc : w₁.heap[c]? = some (.chan 0 #[] false s r tm))
    (he : w₁.heap[e]? = some (.chan 0 #[] false s' r' tm')) (hij : j ≠ i) (hj : gs[j]? = some (parked gj #[rcase c zj] (.recv true))) (hp : partners (gs.setIfInBounds i ph) c false = [(j, 0)])
    (hpe : partners (gs.setIfInBounds i ph) e true = []) :
    runT P (crowd gs w sl) i = (.next (crowd ((gs.setIfInBounds j (Go.Conc.served gj (.tuple #[v, .bool true]))).setIfInBounds i (Go.Conc.served g₂ (selSent z2))) (w₁.setChan c 0 #[] false (s + 1) (r + 1) tm) sl),
      MemOp.ofEvents i g.frame.fn g.frame.place es ++ #[{ g := i, fn := g₂.frame.fn, pos := g₂.frame.place, act := .send c s }, { g := j, fn := gj.frame.fn, pos := gj.frame.place, act := .recv c r 0 },
        { g := i, fn := g₂.frame.fn, pos := g₂.frame.place, act := .sendDone c s }, { g := j, fn := gj.frame.fn, pos := gj.frame.place, act := .recvDone c r }]) := by
  rw [runT_crowd_comm hi h]
  have hj' := stand_get (i := i) hij hj
  have hfp : finishPartner P (gs.setIfInBounds i ph) j 0 v = (gs.setIfInBounds i ph).setIfInBounds j (Go.Conc.served gj (.tuple #[v, .bool true])) := by
    rw [finishPartner_at P (gs.setIfInBounds i ph) hj' (cs := #[rcase c zj]) (sh := .recv true) rfl 0 v]; rfl
  have hgd : (gs.setIfInBounds i ph).getD j default = parked gj #[rcase c zj] (.recv true) := by rw [Array.getD_eq_getD_getElem?, hj']; rfl
  have e3 := finish_sel0 P g₂ c e v z z2 undef
  simp only [scase, rcase] at e3
  simp [communicate, ways, scase, rcase, hc, he, hp, hpe, choose, Sem.run, Question.forced, bind, Sem.bind, pure, World.setChan, crowd, hfp, hgd, set_stand2, e3, parked]
/-- A RECEIVE MEETS THE ONE PARKED SELECT, at its send. -/
theorem recv_meets_sel (hi : gs[i]? = some g) (h : stepG P (i == 0) g w = .comm g₂ #[rcase c z] true (.recv true) w₁ es) (hc : w₁.heap[c]? = some (.chan 0 #[] false s r tm))
    (hij : j ≠ i) (hj : gs[j]? = some (parked gj #[scase c v zj, rcase e z2] .select)) (hp : partners (gs.setIfInBounds i ph) c true = [(j, 0)]) :
    runT P (crowd gs w sl) i = (.next (crowd ((gs.setIfInBounds j (Go.Conc.served gj (selSent z2))).setIfInBounds i (Go.Conc.served g₂ (.tuple #[v, .bool true]))) (w₁.setChan c 0 #[] false (s + 1) (r + 1) tm) sl),
      MemOp.ofEvents i g.frame.fn g.frame.place es ++ #[{ g := j, fn := gj.frame.fn, pos := gj.frame.place, act := .send c s }, { g := i, fn := g₂.frame.fn, pos := g₂.frame.place, act := .recv c r 0 },
        { g := j, fn := gj.frame.fn, pos := gj.frame.place, act := .sendDone c s }, { g := i, fn := g₂.frame.fn, pos := g₂.frame.place, act := .recvDone c r }]) := by
  rw [runT_crowd_comm hi h]
  have hj' := stand_get (i := i) hij hj
  have e3 := finish_sel0 P gj c e v zj z2 undef
  have hfp : finishPartner P (gs.setIfInBounds i ph) j 0 undef = (gs.setIfInBounds i ph).setIfInBounds j (Go.Conc.served gj (selSent z2)) := by
    rw [finishPartner_at P (gs.setIfInBounds i ph) hj' (cs := #[scase c v zj, rcase e z2]) (sh := .select) rfl 0 undef, ← e3]; rfl
  have hgd : (gs.setIfInBounds i ph).getD j default = parked gj #[scase c v zj, rcase e z2] .select := by rw [Array.getD_eq_getD_getElem?, hj']; rfl
  have hov : offeredValue (gs.setIfInBounds i ph) j 0 = v := by simp [offeredValue, hj', parked, scase]
  have e4 : g₂.finishComm P #[{ chan := .chan (some c), send := none, zero := z }] (.recv true) 0 v true = Go.Conc.served g₂ (.tuple #[v, .bool true]) := rfl
  simp [communicate, ways, rcase, hc, hp, choose, Sem.run, Question.forced, bind, Sem.bind, pure, World.setChan, crowd, hfp, hgd, hov, set_stand2, e4, parked]
end
end Go.Proofs.Ytdajdembeacefaa.M

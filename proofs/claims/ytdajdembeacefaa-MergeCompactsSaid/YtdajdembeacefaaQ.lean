/-
  THE CALCULUS, 5: a region that draws its order: whatever the order, where each operation's outcome is fixed by a table.
-/
import Derived.Test.YtdajdembeacefaaO
import Derived.Test.YtdajdembeacefaaB
import Derived.Orders
import Derived.Conc.CompanyDraw
set_option linter.unusedSimpArgs false
set_option linter.unusedVariables false
namespace Go.Proofs.Ytdajdembeacefaa.M
open Go.Conc

theorem mixed : P.follows .mixedOrders = true := rfl

/-- A row that the drawing can bring, from 'listed' on. -/
inductive Lin (ops : Array Oper) : Array Bool → List Nat → Prop
  | nil {listed : Array Bool} : Region.ready .any ops listed = [] → Lin ops listed []
  | cons {listed : Array Bool} {i : Nat} {l : List Nat} : i ∈ Region.ready .any ops listed → Lin ops (listed.setIfInBounds i true) l → Lin ops listed (i :: l)

def unlisted (listed : Array Bool) : Nat := listed.toList.countP (· == false)
theorem unlisted_set {listed : Array Bool} {i : Nat} (h : listed[i]? = some false) : unlisted (listed.setIfInBounds i true) + 1 = unlisted listed := by
  obtain ⟨l⟩ := listed
  unfold unlisted
  simp only [List.getElem?_toArray, List.setIfInBounds_toArray] at h ⊢
  induction l generalizing i with
  | nil => simp at h
  | cons b l ih =>
    cases i with
    | zero => simp at h; subst h; simp
    | succ i =>
      have := ih (i := i) (by simpa using h)
      simp only [List.set_cons_succ, List.countP_cons]
      omega
theorem ready_get {ops : Array Oper} {listed : Array Bool} {i : Nat} (hs : listed.size = ops.size) (h : i ∈ Region.ready .any ops listed) : listed[i]? = some false := by
  rw [mem_ready] at h
  obtain ⟨h1, o, ho, _⟩ := h
  have hlt := (Array.getElem?_eq_some_iff.1 ho).1
  rw [← hs] at hlt
  rw [Array.getElem?_eq_getElem hlt]
  simpa [Array.getElem?_eq_getElem hlt] using h1
theorem lin_go (ops : Array Oper) : ∀ (fuel t : Nat) (listed : Array Bool), listed.size = ops.size → unlisted listed ≤ fuel → Lin ops listed (Region.linearise.go .any ops fuel t listed []) := by
  intro fuel
  induction fuel with
  | zero =>
    intro t listed hs hu
    simp only [Region.linearise.go, List.reverse_nil]
    refine .nil (List.eq_nil_iff_forall_not_mem.2 fun i hi => ?_)
    have := unlisted_set (ready_get hs hi)
    omega
  | succ fuel ih =>
    intro t listed hs hu
    simp only [Region.linearise.go]
    change Lin ops listed (match (Region.ready .any ops listed)[t % (Region.ready .any ops listed).length]? with
      | some i => Region.linearise.go .any ops fuel (t / (Region.ready .any ops listed).length) (listed.setIfInBounds i true) [i]
      | none => [].reverse)
    cases hi : (Region.ready .any ops listed)[t % (Region.ready .any ops listed).length]? with
    | none =>
      have hnil : Region.ready .any ops listed = [] := by
        cases hr : Region.ready .any ops listed with
        | nil => rfl
        | cons x xs =>
          rw [hr] at hi
          have hlt : t % (x :: xs).length < (x :: xs).length := Nat.mod_lt _ (by simp)
          simp at hi
          simp at hlt
          omega
      exact .nil hnil
    | some i =>
      simp only []
      have hm := List.mem_of_getElem? hi
      rw [linearise_go_acc, List.reverse_singleton, List.singleton_append]
      exact .cons hm (ih _ _ (by simpa using hs) (by have := unlisted_set (ready_get hs hm); omega))
theorem lin_schedule (ops : Array Oper) (t : Nat) : Lin ops (Array.replicate ops.size false) (Region.schedule (P.follows .mixedOrders) ops t) := by
  simp only [Region.schedule, mixed, Bool.true_or, if_true, Region.linearise]
  refine lin_go ops _ _ _ (by simp) ?_
  unfold unlisted
  have := List.countP_le_length (p := (· == false)) (l := (Array.replicate ops.size false).toList)
  simpa using this

/-- The region's shape: each edge leads back; an operation's result is its own; what it looks at was made ahead of it. -/
def okDraw (all : List Oper) : Bool :=
  (List.range all.length).all fun i => match all[i]? with
    | none => true
    | some o => (o.after.toList.all fun e => !Region.binds .any e || decide (e.on < i)) && (match o.op with | .select .. => false | _ => true) && (match o.dst with | some d => !(o.looksAt all.toArray).contains d | none => true) &&
        (List.range all.length).all fun k => k == i || match (all[k]?).bind (·.dst) with
          | none => true
          | some d => o.dst != some d && (!(o.looksAt all.toArray).contains d || o.after.toList.any fun e => e.on == k && Region.binds .any e)

theorem okDraw_at {all : List Oper} (h : okDraw all = true) {i : Nat} {o : Oper} (hi : all[i]? = some o) :
    (∀ e ∈ o.after, Region.binds .any e = true → e.on < i) ∧ (∀ cs b, o.op ≠ .select cs b) ∧ (∀ d, o.dst = some d → d ∉ o.looksAt all.toArray) ∧
    ∀ (k : Nat) (d : Tmp), k ≠ i → (all[k]?).bind (·.dst) = some d → o.dst ≠ some d ∧ (d ∈ o.looksAt all.toArray → ∃ e ∈ o.after, e.on = k ∧ Region.binds .any e = true) := by
  have hlt := (List.getElem?_eq_some_iff.1 hi).1
  unfold okDraw at h
  rw [List.all_eq_true] at h
  have h1 := h i (List.mem_range.2 hlt)
  simp only [hi, Bool.and_eq_true] at h1
  obtain ⟨⟨⟨h1, h2⟩, h2'⟩, h3⟩ := h1
  refine ⟨fun e he hb => ?_, fun cs b e => ?_, fun d hd hm => ?_, fun k d hk hd => ?_⟩
  · rw [List.all_eq_true] at h1
    have := h1 e (Array.mem_toList_iff.2 he)
    simpa [hb] using this
  · rw [e] at h2; cases h2
  · rw [hd] at h2'; simp only [List.contains_eq_mem, hm, decide_true] at h2'; cases h2'
  · rw [List.all_eq_true] at h3
    have hkl : k < all.length := by
      rcases Nat.lt_or_ge k all.length with h | h
      · exact h
      · rw [List.getElem?_eq_none h] at hd; cases hd
    have := h3 k (List.mem_range.2 hkl)
    simp only [Bool.or_eq_true, beq_iff_eq, hk, false_or] at this
    rw [hd] at this
    simp only [Bool.and_eq_true, bne_iff_ne, ne_eq, Bool.or_eq_true, Bool.not_eq_true'] at this
    refine ⟨this.1, fun hm => ?_⟩
    rcases this.2 with h4 | h4
    · rw [List.contains_eq_mem] at h4; simp [hm] at h4
    · rw [List.any_eq_true] at h4
      obtain ⟨e, he, h5⟩ := h4
      simp only [Bool.and_eq_true, beq_iff_eq] at h5
      exact ⟨e, Array.mem_toList_iff.1 he, h5⟩

/-- With nothing ready all is listed. -/
theorem all_listed {all : List Oper} (hok : okDraw all = true) {listed : Array Bool} (hs : listed.size = all.length) (h : Region.ready .any all.toArray listed = []) : ∀ i, i < all.length → listed.getD i false = true := by
  intro i
  induction i using Nat.strongRecOn with
  | _ i ih =>
    intro hi
    refine Classical.byContradiction fun hn => ?_
    have : i ∈ Region.ready .any all.toArray listed := by
      rw [mem_ready]
      refine ⟨?_, all[i], by simp [hi], fun e he hb => ?_⟩
      · have hl : i < listed.size := by omega
        simp [hl] at hn ⊢
        exact hn
      · have := (okDraw_at hok (List.getElem?_eq_getElem hi)).1 e he hb
        exact ih e.on this (by omega)
    rw [h] at this; cases this

section
variable {x : Th} {St : Gh → Goroutine → World → Prop} {O : Gh} {w : World} {b : Frame} {n : Nat} {f : Nat → Value} {ds : List Deferred} {k : List Item} {cs : List Frame} {all : List Oper}

theorem ev_congr {f F : Nat → Value} {o : Operand} (h : ∀ t, o = .tmp t → f t = F t) : ev n f o = ev n F o := by
  cases o with
  | tmp t => simp only [ev]; rw [h t rfl]
  | _ => rfl

/-- What the table says of an operation: it is not wanted and yields nothing; or it only reads and yields the table's value; or it is carried out somehow and yields the table's value. -/
def TabOK (x : Th) (St : Gh → Goroutine → World → Prop) (O : Gh) (w : World) (b : Frame) (n : Nat) (F : Nat → Value) (ds : List Deferred) (all : List Oper) (k : List Item) (cs : List Frame) (i : Nat) (o : Oper) : Prop :=
  ∃ d, o.dst = some d ∧
    ((Region.wanted o (yielded all.toArray (mkT n F)) = false ∧ F d = undef) ∨
     (Region.wanted o (yielded all.toArray (mkT n F)) = true ∧ runL P (ldOf x O w) (execOp (ev n F) o) = some (.value (F d))) ∨
     (Region.wanted o (yielded all.toArray (mkT n F)) = true ∧ ∀ (f : Nat → Value) (O1 : Gh) (w1 : World) (rest : List Nat), Rel x O w O1 w1 → (∀ y ∈ o.op.operands, ev n f y = ev n F y) →
        Region.wanted o (yielded all.toArray (mkT n f)) = true →
        (∀ O2 w2, Rel x O1 w1 O2 w2 → Tree P x St O2 (G (Fr b n (upd f d (F d)) ds (.inRegion all.toArray rest :: k)) cs) w2) → Tree P x St O1 (G (Fr b n f ds (.inRegion all.toArray (i :: rest) :: k)) cs) w1))

/-- A REGION THAT DRAWS ITS ORDER. -/
theorem t_draw {id : Nat} (F : Nat → Value) (hok : okDraw all = true) (hk : b.kind ≠ .early)
    (hF : ∀ t, (∀ k : Nat, (all[k]?).bind (·.dst) ≠ some t) → F t = f t)
    (hops : ∀ (i : Nat) (o : Oper), all[i]? = some o → TabOK x St O w b n F ds all k cs i o)
    (h : ∀ O1 w1, Rel x O w O1 w1 → Tree P x St O1 (G (Fr b n F ds k) cs) w1) :
    Tree P x St O (G (Fr b n f ds (.code (.region id all.toArray true) :: k)) cs) w := by
  have key : ∀ (l : List Nat) (listed : Array Bool), Lin all.toArray listed l → listed.size = all.length → ∀ (g : Nat → Value) (O1 : Gh) (w1 : World), Rel x O w O1 w1 →
      (∀ (i : Nat) (d : Tmp), (all[i]?).bind (·.dst) = some d → listed.getD i false = true → g d = F d) → (∀ t, (∀ k : Nat, (all[k]?).bind (·.dst) ≠ some t) → g t = F t) →
      Tree P x St O1 (G (Fr b n g ds (.inRegion all.toArray l :: k)) cs) w1 := by
    intro l listed hl
    induction hl with
    | @nil listed hr =>
      intro hs g O1 w1 r h1 h2
      refine t_ctl rfl (fun _ => stepG_region_end) ?_
      have hgF : g = F := by
        funext t
        by_cases ht : ∃ k : Nat, (all[k]?).bind (·.dst) = some t
        · obtain ⟨k, hk⟩ := ht
          have hkl : k < all.length := by
            rcases Nat.lt_or_ge k all.length with h | h
            · exact h
            · rw [List.getElem?_eq_none h] at hk; cases hk
          exact h1 k t hk (all_listed hok hs hr k hkl)
        · exact h2 t fun k hk => ht ⟨k, hk⟩
      subst hgF
      exact h O1 w1 r
    | @cons listed i l hi _ ih =>
      intro hs g O1 w1 r h1 h2
      have hi' := hi
      rw [mem_ready] at hi'
      obtain ⟨hil, o, ho, hed⟩ := hi'
      have ho' : all[i]? = some o := by simpa using ho
      have hlt := (List.getElem?_eq_some_iff.1 ho').1
      obtain ⟨hb, hsel, hself', hdep⟩ := okDraw_at hok ho'
      obtain ⟨d, hd, hcase⟩ := hops i o ho'
      -- what it looks at agrees with the table
      have hlook : ∀ t ∈ o.looksAt all.toArray, (t ≠ d ∨ True) → (∀ k : Nat, k ≠ i → (all[k]?).bind (·.dst) = some t → g t = F t) := by
        intro t ht _ k hk hkd
        obtain ⟨e, he, rfl, hbn⟩ := (hdep k t hk hkd).2 ht
        exact h1 e.on t hkd (hed e he hbn)
      have hnew : ∀ (O2 : Gh) (w2 : World), Rel x O w O2 w2 → (∀ (j : Nat) (t : Tmp), (all[j]?).bind (·.dst) = some t → (listed.setIfInBounds i true).getD j false = true → (upd g d (F d)) t = F t) ∧ (∀ t, (∀ k : Nat, (all[k]?).bind (·.dst) ≠ some t) → (upd g d (F d)) t = F t) := by
        intro O2 w2 _
        refine ⟨fun j t hj hlj => ?_, fun t ht => ?_⟩
        · unfold upd
          by_cases htd : t = d
          · simp [htd]
          · rw [if_neg htd]
            by_cases hji : j = i
            · subst hji
              rw [ho'] at hj; simp only [Option.bind_some] at hj; rw [hd] at hj; exact absurd (Option.some.inj hj).symm htd
            · exact h1 j t hj (by rw [getD_set_ne false (Ne.symm hji)] at hlj; exact hlj)
        · unfold upd
          by_cases htd : t = d
          · exact absurd (show (all[i]?).bind (·.dst) = some t from by rw [ho', htd]; exact hd) (ht i)
          · rw [if_neg htd]; exact h2 t ht
      have goOn : ∀ (O2 : Gh) (w2 : World), Rel x O w O2 w2 → Tree P x St O2 (G (Fr b n (upd g d (F d)) ds (.inRegion all.toArray l :: k)) cs) w2 := fun O2 w2 r2 =>
        ih (by simpa using hs) _ O2 w2 r2 (hnew O2 w2 r2).1 (hnew O2 w2 r2).2
      -- the slots agree where it looks
      have agree : ∀ t, t ∈ o.looksAt all.toArray → t ≠ d → g t = F t := by
        intro t ht htd
        by_cases hw : ∃ k : Nat, (all[k]?).bind (·.dst) = some t
        · obtain ⟨k, hk⟩ := hw
          by_cases hki : k = i
          · subst hki; rw [ho'] at hk; simp only [Option.bind_some] at hk; rw [hd] at hk; exact absurd (Option.some.inj hk).symm htd
          · exact hlook t ht (.inl htd) k hki hk
        · exact h2 t fun k hk => hw ⟨k, hk⟩
      have hself : d ∉ o.looksAt all.toArray := hself' d hd
      have agree' : ∀ t, t ∈ o.looksAt all.toArray → g t = F t := fun t ht => agree t ht fun e => hself (e ▸ ht)
      have hopd : ∀ y ∈ o.op.operands, ev n g y = ev n F y := fun y hy => ev_congr fun t e => agree' t (by
        subst e; exact List.mem_append_left _ (List.mem_filterMap.2 ⟨.tmp t, by simpa using hy, rfl⟩))
      have hwant : Region.wanted o (yielded all.toArray (mkT n g)) = Region.wanted o (yielded all.toArray (mkT n F)) := by
        unfold Region.wanted
        cases hg : o.guard with
        | none => rfl
        | some q =>
          obtain ⟨j, z⟩ := q
          simp only [yielded_mkT]
          cases hdj : (all.toArray[j]?).bind (·.dst) with
          | none => rfl
          | some dj =>
            simp only
            have : dj ∈ o.looksAt all.toArray := List.mem_append_right _ (by rw [hg]; simp only; rw [hdj]; simp)
            rw [agree' dj this]
      have hexec : execOp (ev n g) o = execOp (ev n F) o := execOp_congr o hsel hopd
      rcases hcase with ⟨hw, hu⟩ | ⟨hw, hr⟩ | ⟨hw, hcall⟩
      · refine t_ctl rfl (fun w => ?_) (hu ▸ goOn O1 w1 r)
        have := stepG_unwanted (P := P) (main := x.id == 0) (b := b) (a := ⟨mkT n g, ds⟩) (k := k) (cs := cs) (w := w) (rest := l) ho (by rw [hwant]; exact hw)
        rw [put_mkT, hd] at this
        exact this
      · refine t_readsE (f' := upd g d (F d)) hk [i] l g ?_ (goOn O1 w1 r)
        have hr1 := runL_mono (fun _ _ h => ldOf_rely r h) _ _ hr
        simp only [evalOps, ho, hwant, hw, if_true, hexec, hr1, hd]
        rfl
      · exact hcall g O1 w1 l r hopd (by rw [hwant]; exact hw) fun O2 w2 r2 => goOn O2 w2 (r.trans r2)
  refine .step (fun O' g' w' => (∃ l, Lin all.toArray (Array.replicate all.length false) l ∧ g' = G (Fr b n f ds (.inRegion all.toArray l :: k)) cs) ∧ Rel x O w O' w') rfl (fun O1 w1 r => ?_) (fun O' g' w' h => ?_)
  · refine ⟨_, _, #[], O1, stepG_region_draw, Moves.drawn, ⟨_, by simpa using lin_schedule all.toArray _, rfl⟩, r.trans ⟨Nat.le_refl _, rfl, rfl, rfl, rfl, fun _ _ _ => rfl, fun _ _ _ h => h, fun _ _ _ => rfl, fun _ _ _ _ => rfl, fun _ _ _ h => ⟨h, rfl⟩, fun _ _ h => h, fun _ _ _ => rfl⟩⟩
  · obtain ⟨⟨l, hl, rfl⟩, r⟩ := h
    exact key l _ hl (by simp) f O' w' r (fun i d _ h => by simp [Array.getElem?_replicate] at h; split at h <;> simp at h) (fun t ht => (hF t ht).symm)

/-! ### the table, reckoned in the text's order -/
/-- In state f operation i yields v. -/
def OpOK (x : Th) (St : Gh → Goroutine → World → Prop) (O : Gh) (w : World) (b : Frame) (n : Nat) (f : Nat → Value) (ds : List Deferred) (all : List Oper) (k : List Item) (cs : List Frame) (i : Nat) (o : Oper) (d : Tmp) (v : Value) : Prop :=
  (Region.wanted o (yielded all.toArray (mkT n f)) = false ∧ v = undef) ∨
  (Region.wanted o (yielded all.toArray (mkT n f)) = true ∧ runL P (ldOf x O w) (execOp (ev n f) o) = some (.value v)) ∨
  (Region.wanted o (yielded all.toArray (mkT n f)) = true ∧ ∀ (g : Nat → Value) (O1 : Gh) (w1 : World) (rest : List Nat), Rel x O w O1 w1 → (∀ y ∈ o.op.operands, ev n g y = ev n f y) →
    Region.wanted o (yielded all.toArray (mkT n g)) = true →
    (∀ O2 w2, Rel x O1 w1 O2 w2 → Tree P x St O2 (G (Fr b n (upd g d v) ds (.inRegion all.toArray rest :: k)) cs) w2) → Tree P x St O1 (G (Fr b n g ds (.inRegion all.toArray (i :: rest) :: k)) cs) w1)
def TabW (x : Th) (St : Gh → Goroutine → World → Prop) (O : Gh) (w : World) (b : Frame) (n : Nat) (ds : List Deferred) (all : List Oper) (k : List Item) (cs : List Frame) : Nat → List Oper → (Nat → Value) → (Nat → Value) → Prop
  | _, [], f, F => F = f
  | i, o :: os, f, F => ∃ d v, o.dst = some d ∧ OpOK x St O w b n f ds all k cs i o d v ∧ TabW x St O w b n ds all k cs (i + 1) os (upd f d v) F
theorem TabW.off : ∀ {os : List Oper} {i : Nat} {f F : Nat → Value}, TabW x St O w b n ds all k cs i os f F → ∀ t, (∀ o ∈ os, o.dst ≠ some t) → F t = f t
  | [], _, _, _, h, t, _ => by rw [show _ = _ from h]
  | o :: os, i, f, F, ⟨d, v, hd, _, h⟩, t, ht => by
    have h1 := TabW.off h t fun o' ho' => ht o' (List.mem_cons_of_mem _ ho')
    rw [h1]; unfold upd
    rw [if_neg fun e => ht o (List.mem_cons_self ..) (by rw [hd, e])]
theorem TabW.ok (hok : okDraw all = true) : ∀ (os : List Oper) (i : Nat) (f F : Nat → Value), all.drop i = os → TabW x St O w b n ds all k cs i os f F →
    ∀ (j : Nat) (o : Oper), i ≤ j → all[j]? = some o → TabOK x St O w b n F ds all k cs j o
  | [], i, f, F, e, h, j, o, hij, hj => by
    have h1 := (List.getElem?_eq_some_iff.1 hj).1
    have h2 := List.drop_eq_nil_iff.1 e
    omega
  | o' :: os, i, f, F, e, ⟨d, v, hd, hop, h⟩, j, o, hij, hj => by
    obtain ⟨e1, e2⟩ := drop_get e
    rcases Nat.eq_or_lt_of_le hij with rfl | hlt
    · have ho : o = o' := by
        have : all[i]? = some o' := by simpa using e1
        rw [this] at hj; exact (Option.some.inj hj).symm
      subst ho
      obtain ⟨hb, hsel, hself, hdep⟩ := okDraw_at hok hj
      have later : ∀ o2 ∈ os, ∃ k : Nat, i < k ∧ all[k]? = some o2 := by
        intro o2 ho2
        obtain ⟨m, hm⟩ := List.getElem?_of_mem ho2
        rw [← e2, List.getElem?_drop] at hm
        exact ⟨i + 1 + m, by omega, hm⟩
      have hFd : F d = v := by
        rw [TabW.off h d fun o2 ho2 hd2 => ?_]
        · simp [upd]
        · obtain ⟨k2, hk2, hk3⟩ := later o2 ho2
          exact (hdep k2 d (by omega) (by rw [hk3]; exact hd2)).1 hd
      have hlook : ∀ t ∈ o.looksAt all.toArray, F t = f t := by
        intro t ht
        have htd : t ≠ d := fun e => hself d hd (e ▸ ht)
        rw [TabW.off h t fun o2 ho2 hd2 => ?_]
        · simp [upd, htd]
        · obtain ⟨k2, hk2, hk3⟩ := later o2 ho2
          obtain ⟨ed, he, hon, hbn⟩ := (hdep k2 t (by omega) (by rw [hk3]; exact hd2)).2 ht
          have := hb ed he hbn
          omega
      have hopd : ∀ y ∈ o.op.operands, ev n F y = ev n f y := fun y hy => ev_congr fun t e => hlook t (by
        subst e; exact List.mem_append_left _ (List.mem_filterMap.2 ⟨.tmp t, by simpa using hy, rfl⟩))
      have hwant : Region.wanted o (yielded all.toArray (mkT n F)) = Region.wanted o (yielded all.toArray (mkT n f)) := by
        unfold Region.wanted
        cases hg : o.guard with
        | none => rfl
        | some q =>
          obtain ⟨j, z⟩ := q
          simp only [yielded_mkT]
          cases hdj : (all.toArray[j]?).bind (·.dst) with
          | none => rfl
          | some dj =>
            simp only
            have : dj ∈ o.looksAt all.toArray := List.mem_append_right _ (by rw [hg]; simp only; rw [hdj]; simp)
            rw [hlook dj this]
      refine ⟨d, hd, ?_⟩
      rw [hwant, execOp_congr o hsel hopd, hFd]
      refine hop.imp id (Or.imp id fun ⟨h1, h2⟩ => ⟨h1, fun g O1 w1 rest r hy hw hc => h2 g O1 w1 rest r (fun y hy' => (hy y hy').trans (hopd y hy')) hw hc⟩)
    · exact TabW.ok hok os (i + 1) _ F e2 h j o hlt hj

/-- In a region that draws its order, reckoned in the text's. -/
def InDraw (x : Th) (St : Gh → Goroutine → World → Prop) (O : Gh) (w : World) (b : Frame) (n : Nat) (f : Nat → Value) (ds : List Deferred) (all : List Oper) (k : List Item) (cs : List Frame) (i : Nat) (os : List Oper) : Prop :=
  ∃ F, TabW x St O w b n ds all k cs i os f F ∧ ∀ O1 w1, Rel x O w O1 w1 → Tree P x St O1 (G (Fr b n F ds k) cs) w1
theorem t_drawn {id : Nat} (hok : okDraw all = true) (hk : b.kind ≠ .early) (h : InDraw x St O w b n f ds all k cs 0 all) : Tree P x St O (G (Fr b n f ds (.code (.region id all.toArray true) :: k)) cs) w := by
  obtain ⟨F, hT, h⟩ := h
  refine t_draw F hok hk (fun t ht => hT.off t fun o ho hd => ?_) (fun i o ho => TabW.ok hok all 0 f F rfl hT i o (Nat.zero_le _) ho) h
  obtain ⟨m, hm⟩ := List.getElem?_of_mem ho
  exact ht m (by rw [hm]; exact hd)
variable {os : List Oper} {i : Nat} {o : Oper} {d : Nat} {op : Op} {t : TypeId} {p : String} {e : Array Edge}
theorem d_done (h : ∀ O1 w1, Rel x O w O1 w1 → Tree P x St O1 (G (Fr b n f ds k) cs) w1) : InDraw x St O w b n f ds all k cs i [] := ⟨f, rfl, h⟩
theorem InDraw.cons {v : Value} (hd : o.dst = some d) (ho : OpOK x St O w b n f ds all k cs i o d v) (h : InDraw x St O w b n (upd f d v) ds all k cs (i + 1) os) : InDraw x St O w b n f ds all k cs i (o :: os) := by
  obtain ⟨F, h1, h2⟩ := h
  exact ⟨F, ⟨d, v, hd, ho, h1⟩, h2⟩
theorem d_rd0 {gd : Option (Nat × Bool)} (hw : Region.wanted ⟨some d, op, t, p, e, gd⟩ (yielded all.toArray (mkT n f)) = true)
    (h : ∀ K : Value → Prop, (∀ v, InDraw x St O w b n (upd f d v) ds all k cs (i + 1) os → K v) → opThen (runL P (ldOf x O w) (execOp (ev n f) ⟨some d, op, t, p, e, gd⟩)) K) :
    InDraw x St O w b n f ds all k cs i (⟨some d, op, t, p, e, gd⟩ :: os) := by
  have := h _ (fun _ h => h)
  cases hr : runL P (ldOf x O w) (execOp (ev n f) ⟨some d, op, t, p, e, gd⟩) with
  | none => rw [hr] at this; exact this.elim
  | some z =>
    rw [hr] at this
    cases z with
    | value v => exact InDraw.cons rfl (.inr (.inl ⟨hw, hr⟩)) this
    | _ => exact this.elim
theorem d_rd (h : ∀ K : Value → Prop, (∀ v, InDraw x St O w b n (upd f d v) ds all k cs (i + 1) os → K v) → opThen (runL P (ldOf x O w) (execOp (ev n f) ⟨some d, op, t, p, e, none⟩)) K) :
    InDraw x St O w b n f ds all k cs i (⟨some d, op, t, p, e, none⟩ :: os) := d_rd0 rfl h
theorem d_rdG {j d' : Nat} {z : Bool} (hj : (all.toArray[j]?).bind (·.dst) = some d') (hd : d' < n) (hv : f d' = .bool z)
    (h : ∀ K : Value → Prop, (∀ v, InDraw x St O w b n (upd f d v) ds all k cs (i + 1) os → K v) → opThen (runL P (ldOf x O w) (execOp (ev n f) ⟨some d, op, t, p, e, some (j, z)⟩)) K) :
    InDraw x St O w b n f ds all k cs i (⟨some d, op, t, p, e, some (j, z)⟩ :: os) := d_rd0 (by rw [wanted_of rfl hj hd hv]; cases z <;> rfl) h
theorem d_skG {j d' : Nat} {z : Bool} (hj : (all.toArray[j]?).bind (·.dst) = some d') (hd : d' < n) (hv : f d' = .bool (!z))
    (h : InDraw x St O w b n (upd f d undef) ds all k cs (i + 1) os) : InDraw x St O w b n f ds all k cs i (⟨some d, op, t, p, e, some (j, z)⟩ :: os) :=
  InDraw.cons rfl (.inl ⟨by rw [wanted_of rfl hj hd hv]; cases z <;> rfl, rfl⟩) h
theorem d_skU {j d' : Nat} {z : Bool} (hj : (all.toArray[j]?).bind (·.dst) = some d') (hd : d' < n) (hv : f d' = undef)
    (h : InDraw x St O w b n (upd f d undef) ds all k cs (i + 1) os) : InDraw x St O w b n f ds all k cs i (⟨some d, op, t, p, e, some (j, z)⟩ :: os) :=
  InDraw.cons rfl (.inl ⟨by unfold Region.wanted; simp only [yielded_mkT, hj, hd, if_true, hv, undef]; cases z <;> rfl, rfl⟩) h

/-- A call in such a region. -/
theorem d_call0 {fn : FuncId} {F : Func} {args : Array Operand} {ats : Array TypeId} {gd : Option (Nat × Bool)} {v : Value} {vals : Array Value} (hk : b.kind ≠ .early)
    (hw : Region.wanted ⟨some d, .call { callee := .value (.func fn), args, argTypes := ats }, t, p, e, gd⟩ (yielded all.toArray (mkT n f)) = true) (hi : all[i]? = some ⟨some d, .call { callee := .value (.func fn), args, argTypes := ats }, t, p, e, gd⟩)
    (hf : P.funcs[fn]? = some F) (hname : (F.name == "runtime.NumGoroutine") = false) (hb : F.body.isNone = false)
    (has : args.map (ev n f) = vals)
    (hc : ∀ (c : Frame) (O1 : Gh) (w1 : World), Rel x O w O1 w1 → (∀ O2 w2, Rel x O1 w1 O2 w2 → Tree P x St O2 (G (c.finish v) cs) w2) → Tree P x St O1 (G (Frame.enter P fn vals .normal) (c :: cs)) w1)
    (h : InDraw x St O w b n (upd f d v) ds all k cs (i + 1) os) :
    InDraw x St O w b n f ds all k cs i (⟨some d, .call { callee := .value (.func fn), args, argTypes := ats }, t, p, e, gd⟩ :: os) := by
  refine InDraw.cons rfl (.inr (.inr ⟨hw, fun g O1 w1 rest r hy hwg hcont => ?_⟩)) h
  have hargs : args.map (ev n g) = args.map (ev n f) := Array.map_congr_left fun y hy' => hy y (by simp [Op.operands, Call.operands, hy'])
  have hi' : all.toArray[i]? = some ⟨some d, .call { callee := .value (.func fn), args, argTypes := ats }, t, p, e, gd⟩ := by simpa using hi
  refine t_ctl rfl (fun w => ?_) (hc (Fr b n g ds (.inRegion all.toArray (i :: rest) :: k)) O1 w1 r fun O2 w2 r2 => ?_)
  · have := stepG_enter (P := P) (main := x.id == 0) (b := b) (a := ⟨mkT n g, ds⟩) (k := k) (cs := cs) (w := w) (rest := rest) hi' hwg hk (run_call_body rfl hf hname hb)
    have hl : listed P b.fn ⟨mkT n g, ds⟩ ⟨some d, .call { callee := .value (.func fn), args, argTypes := ats }, t, p, e, gd⟩ w = #[] := by unfold listed; rw [events_call_body rfl hf hname hb]; exact seen_none P _
    rw [hl, eval_mkT, hargs, has] at this
    exact this
  · unfold Fr
    rw [Frame.finish_at, put_mkT, hi']
    exact hcont O2 w2 r2

/-- A call in a region in the text's order: what is handed over is reckoned first. -/
theorem t_callA {fn : FuncId} {F : Func} {args : Array Operand} {ats : Array TypeId} (vals : Array Value) (hk : b.kind ≠ .early)
    (hf : P.funcs[fn]? = some F) (hname : (F.name == "runtime.NumGoroutine") = false) (hb : F.body.isNone = false) (has : args.map (ev n f) = vals)
    (h : ∀ c, (∀ v O' w', InReg P x St O' w' b n (upd f d v) ds all k cs (i + 1) os → Tree P x St O' (G (c.finish v) cs) w') → Tree P x St O (G (Frame.enter P fn vals .normal) (c :: cs)) w) :
    InReg P x St O w b n f ds all k cs i (⟨some d, .call { callee := .value (.func fn), args, argTypes := ats }, t, p, e, none⟩ :: os) := by
  subst has; exact t_call hk hf hname hb h
end
end Go.Proofs.Ytdajdembeacefaa.M

/-
  PLAIN LAWS, 1 (no program): the order of entries; what First answers is the beginning of the document's merge.
-/
import Derived.Test.YtdajdembeacefaaAU
set_option linter.unusedSimpArgs false
set_option linter.unusedVariables false
namespace Go.Proofs.Ytdajdembeacefaa.M
open Go.Conc

/-! ### the order -/
theorem bl_irr : ∀ x : List UInt8, Op.bytesLess x x = false
  | [] => rfl
  | a :: x => by simp [Op.bytesLess, bl_irr x]
theorem bl_trans : ∀ {x y z : List UInt8}, Op.bytesLess x y = true → Op.bytesLess y z = true → Op.bytesLess x z = true
  | x, y, [], h1, h2 => by cases y <;> simp [Op.bytesLess] at h2
  | [], y, c :: z, h1, h2 => rfl
  | a :: x, [], c :: z, h1, h2 => by simp [Op.bytesLess] at h1
  | a :: x, b :: y, c :: z, h1, h2 => by
    simp only [Op.bytesLess, Bool.or_eq_true, decide_eq_true_eq, Bool.and_eq_true, beq_iff_eq] at h1 h2 ⊢
    rcases h1 with h1 | ⟨rfl, h1⟩
    · rcases h2 with h2 | ⟨rfl, h2⟩
      · exact .inl (UInt8.lt_trans h1 h2)
      · exact .inl h1
    · rcases h2 with h2 | ⟨rfl, h2⟩
      · exact .inl h2
      · exact .inr ⟨rfl, bl_trans h1 h2⟩
theorem bl_tot : ∀ x y : List UInt8, Op.bytesLess x y = true ∨ x = y ∨ Op.bytesLess y x = true
  | [], [] => .inr (.inl rfl)
  | [], _ :: _ => .inl rfl
  | _ :: _, [] => .inr (.inr rfl)
  | a :: x, b :: y => by
    simp only [Op.bytesLess, Bool.or_eq_true, decide_eq_true_eq, Bool.and_eq_true, beq_iff_eq, List.cons.injEq]
    rcases Nat.lt_trichotomy a.toNat b.toNat with h | h | h
    · exact .inl (.inl h)
    · have hab : a = b := UInt8.toNat_inj.1 h
      subst hab
      rcases bl_tot x y with h | h | h
      · exact .inl (.inr ⟨rfl, h⟩)
      · exact .inr (.inl ⟨rfl, h⟩)
      · exact .inr (.inr (.inr ⟨rfl, h⟩))
    · exact .inr (.inr (.inl h))
theorem bef_iff {a b : Ent} : bef a b = true ↔ Op.bytesLess a.key.toList b.key.toList = true ∨ (a.key.toList = b.key.toList ∧ b.seq < a.seq) := by
  simp [bef]
theorem keq_iff {a b : Ent} : keq a b = true ↔ a.key.toList = b.key.toList ∧ a.seq = b.seq := by simp [keq]
theorem bef_irr (a : Ent) : bef a a = false := by simp [bef, bl_irr]
theorem bef_trans {a b c : Ent} (h1 : bef a b = true) (h2 : bef b c = true) : bef a c = true := by
  rw [bef_iff] at *
  rcases h1 with h1 | ⟨e1, h1⟩
  · rcases h2 with h2 | ⟨e2, h2⟩
    · exact .inl (bl_trans h1 h2)
    · rw [e2] at h1; exact .inl h1
  · rcases h2 with h2 | ⟨e2, h2⟩
    · rw [← e1] at h2; exact .inl h2
    · exact .inr ⟨e1.trans e2, by omega⟩
theorem bef_tot (a b : Ent) : bef a b = true ∨ keq a b = true ∨ bef b a = true := by
  simp only [bef_iff, keq_iff]
  rcases bl_tot a.key.toList b.key.toList with h | h | h
  · exact .inl (.inl h)
  · rcases Int.lt_trichotomy a.seq b.seq with h2 | h2 | h2
    · exact .inr (.inr (.inr ⟨h.symm, h2⟩))
    · exact .inr (.inl ⟨h, h2⟩)
    · exact .inl (.inr ⟨h, h2⟩)
  · exact .inr (.inr (.inl h))
theorem keq_refl (a : Ent) : keq a a = true := by simp [keq]
theorem keq_symm {a b : Ent} (h : keq a b = true) : keq b a = true := by rw [keq_iff] at *; exact ⟨h.1.symm, h.2.symm⟩
theorem keq_trans {a b c : Ent} (h : keq a b = true) (h2 : keq b c = true) : keq a c = true := by rw [keq_iff] at *; exact ⟨h.1.trans h2.1, h.2.trans h2.2⟩
theorem bef_keq_l {a b c : Ent} (h : keq a b = true) : bef a c = bef b c := by
  rw [keq_iff] at h; unfold bef; rw [h.1, h.2]
theorem bef_keq_r {a b c : Ent} (h : keq a b = true) : bef c a = bef c b := by
  rw [keq_iff] at h; unfold bef; rw [h.1, h.2]
theorem bef_not_keq {a b : Ent} (h : bef a b = true) : keq a b = false := by
  cases hk : keq a b with
  | false => rfl
  | true => rw [bef_keq_l hk, bef_irr] at h; cases h
theorem bef_asymm {a b : Ent} (h : bef a b = true) : bef b a = false := by
  cases hk : bef b a with
  | false => rfl
  | true => have := bef_trans h hk; rw [bef_irr] at this; cases this

def Srt (l : List Ent) : Prop := l.Pairwise fun a b => bef a b = true
theorem ordL_srt : ∀ {l : List Ent}, ordL l = true → Srt l
  | [], _ => List.Pairwise.nil
  | [a], _ => List.pairwise_singleton _ a
  | a :: b :: l, h => by
    simp only [ordL, Bool.and_eq_true] at h
    have ih := ordL_srt h.2
    refine List.Pairwise.cons (fun x hx => ?_) ih
    rcases List.mem_cons.1 hx with rfl | hx
    · exact h.1
    · exact bef_trans h.1 (List.rel_of_pairwise_cons ih hx)
theorem srt_ordL : ∀ {l : List Ent}, Srt l → ordL l = true
  | [], _ => rfl
  | [a], _ => rfl
  | a :: b :: l, h => by
    unfold ordL
    rw [Bool.and_eq_true]
    exact ⟨List.rel_of_pairwise_cons h (List.mem_cons_self ..), srt_ordL (List.Pairwise.of_cons h)⟩
theorem srt_unique : ∀ {l l' : List Ent}, Srt l → Srt l' → (∀ e, e ∈ l ↔ e ∈ l') → l = l'
  | [], [], _, _, _ => rfl
  | [], b :: l', _, _, h => by have := (h b).2 (List.mem_cons_self ..); simp at this
  | a :: l, [], _, _, h => by have := (h a).1 (List.mem_cons_self ..); simp at this
  | a :: l, b :: l', h1, h2, h => by
    have hab : a = b := by
      have ha := (h a).1 (List.mem_cons_self ..)
      have hb := (h b).2 (List.mem_cons_self ..)
      rcases List.mem_cons.1 ha with e | ha
      · exact e
      · rcases List.mem_cons.1 hb with e | hb
        · exact e.symm
        · have q1 := List.rel_of_pairwise_cons h2 ha
          have q2 := List.rel_of_pairwise_cons h1 hb
          have := bef_trans q1 q2; rw [bef_irr] at this; cases this
    subst hab
    congr 1
    refine srt_unique (List.Pairwise.of_cons h1) (List.Pairwise.of_cons h2) fun e => ?_
    have n1 : a ∉ l := fun hm => by have := List.rel_of_pairwise_cons h1 hm; rw [bef_irr] at this; cases this
    have n2 : a ∉ l' := fun hm => by have := List.rel_of_pairwise_cons h2 hm; rw [bef_irr] at this; cases this
    have := h e
    simp only [List.mem_cons] at this
    constructor
    · intro he
      rcases this.1 (.inr he) with rfl | h'
      · exact absurd he n1
      · exact h'
    · intro he
      rcases this.2 (.inr he) with rfl | h'
      · exact absurd he n2
      · exact h'

/-- The first of its kind. -/
def isFst (F : List Ent) (e : Ent) : Prop := F.find? (fun x => keq x e) = some e
theorem isFst_mem {F : List Ent} {e : Ent} (h : isFst F e) : e ∈ F := List.mem_of_find?_eq_some h
theorem hasL_iff {l : List Ent} {e : Ent} : hasL l e = true ↔ ∃ a ∈ l, keq a e = true := by simp [hasL, List.any_eq_true]
theorem hasL_congr {l : List Ent} {a e : Ent} (h : keq a e = true) : hasL l a = hasL l e := by
  unfold hasL
  congr 1
  funext x
  cases hx : keq x e with
  | true => exact keq_trans hx (keq_symm h)
  | false =>
    cases hy : keq x a with
    | false => rfl
    | true => rw [keq_trans hy h] at hx; cases hx

theorem mem_tw {α : Type} {p : α → Bool} : ∀ {l : List α} {x : α}, x ∈ l.takeWhile p → p x = true
  | [], x, h => by simp at h
  | a :: l, x, h => by
    rw [List.takeWhile_cons] at h
    split at h
    · rename_i hp
      rcases List.mem_cons.1 h with rfl | h
      · exact hp
      · exact mem_tw h
    · simp at h

/-! ### the document's merge -/
theorem srt_ins {out : List Ent} (h : Srt out) (e : Ent) : Srt (insL out e) := by
  unfold insL
  cases hh : hasL out e with
  | true => simpa using h
  | false =>
    have hno : ∀ a ∈ out, keq a e = false := fun a ha => by
      cases hk : keq a e with
      | false => rfl
      | true => rw [hasL_iff.2 ⟨a, ha, hk⟩] at hh; cases hh
    rw [if_neg (by simp)]
    have htd := List.takeWhile_append_dropWhile (p := fun a => bef a e) (l := out)
    have hs : Srt (out.takeWhile (fun a => bef a e) ++ out.dropWhile (fun a => bef a e)) := by rw [htd]; exact h
    obtain ⟨s1, s2, s3⟩ := List.pairwise_append.1 hs
    -- what stands behind is behind
    have hd : ∀ b ∈ out.dropWhile (fun a => bef a e), bef e b = true := by
      intro b hb
      cases hdw : out.dropWhile (fun a => bef a e) with
      | nil => rw [hdw] at hb; simp at hb
      | cons c l =>
        have hc : bef c e = false := by
          have := List.head?_dropWhile_not (p := fun a => bef a e) (l := out)
          rw [hdw] at this
          simpa using this
        have hcm : c ∈ out := by
          have : c ∈ out.dropWhile (fun a => bef a e) := by rw [hdw]; exact List.mem_cons_self ..
          exact (List.dropWhile_sublist _).subset this
        have hec : bef e c = true := by
          rcases bef_tot e c with h | h | h
          · exact h
          · have := hno c hcm; rw [keq_symm h] at this; cases this
          · rw [hc] at h; cases h
        rw [hdw] at hb s2
        rcases List.mem_cons.1 hb with rfl | hb
        · exact hec
        · exact bef_trans hec (List.rel_of_pairwise_cons s2 hb)
    rw [List.append_assoc]
    refine List.pairwise_append.2 ⟨s1, ?_, fun a ha b hb => ?_⟩
    · rw [List.singleton_append]
      exact List.Pairwise.cons (fun b hb => hd b hb) s2
    · have hae : bef a e = true := mem_tw (p := fun a => bef a e) ha
      simp at hb
      rcases hb with rfl | hb
      · exact hae
      · exact s3 a ha b hb
theorem mem_ins {out : List Ent} {e x : Ent} : x ∈ insL out e ↔ x ∈ out ∨ (x = e ∧ hasL out e = false) := by
  unfold insL
  cases hh : hasL out e with
  | true => simp
  | false =>
    rw [if_neg (by simp)]
    have htd := List.takeWhile_append_dropWhile (p := fun a => bef a e) (l := out)
    have : x ∈ out ↔ x ∈ out.takeWhile (fun a => bef a e) ∨ x ∈ out.dropWhile (fun a => bef a e) := by
      rw [← List.mem_append, htd]
    rw [this]
    simp
    constructor
    · rintro (h | h | h)
      · exact .inl (.inl h)
      · exact .inr h
      · exact .inl (.inr h)
    · rintro ((h | h) | h)
      · exact .inl h
      · exact .inr (.inr h)
      · exact .inr (.inl h)
/-- What the fold makes: sorted; the first of each kind. -/
theorem fold_spec : ∀ (F : List Ent) (out : List Ent), Srt out → Srt (F.foldl insL out) ∧ ∀ e, e ∈ F.foldl insL out ↔ e ∈ out ∨ (isFst F e ∧ hasL out e = false)
  | [], out, h => ⟨h, fun e => by simp [isFst]⟩
  | a :: F, out, h => by
    obtain ⟨h1, h2⟩ := fold_spec F (insL out a) (srt_ins h a)
    refine ⟨h1, fun e => ?_⟩
    rw [List.foldl_cons, h2 e, mem_ins]
    have hcl : hasL (insL out a) e = (hasL out e || keq a e) := by
      cases hk : keq a e with
      | true =>
        rw [Bool.or_true]
        cases hh : hasL out a with
        | true =>
          rw [hasL_congr hk] at hh
          obtain ⟨b, hb, hbk⟩ := hasL_iff.1 hh
          exact hasL_iff.2 ⟨b, mem_ins.2 (.inl hb), hbk⟩
        | false => exact hasL_iff.2 ⟨a, mem_ins.2 (.inr ⟨rfl, hh⟩), hk⟩
      | false =>
        rw [Bool.or_false]
        cases hh : hasL out e with
        | true =>
          obtain ⟨b, hb, hbk⟩ := hasL_iff.1 hh
          exact hasL_iff.2 ⟨b, mem_ins.2 (.inl hb), hbk⟩
        | false =>
          cases hx : hasL (insL out a) e with
          | false => rfl
          | true =>
            obtain ⟨b, hb, hbk⟩ := hasL_iff.1 hx
            rcases mem_ins.1 hb with hb | ⟨rfl, _⟩
            · rw [hasL_iff.2 ⟨b, hb, hbk⟩] at hh; cases hh
            · rw [hk] at hbk; cases hbk
    rw [hcl]
    unfold isFst
    rw [List.find?_cons]
    cases hk : keq a e with
    | true =>
      simp only [Bool.or_true, Bool.true_eq_false, and_false, or_false, Option.some.injEq]
      constructor
      · rintro (h | ⟨rfl, h⟩)
        · exact .inl h
        · exact .inr ⟨rfl, h⟩
      · rintro (h | ⟨rfl, h⟩)
        · exact .inl h
        · exact .inr ⟨rfl, h⟩
    | false =>
      simp only [Bool.or_false]
      constructor
      · rintro ((h | ⟨rfl, h⟩) | h)
        · exact .inl h
        · rw [keq_refl] at hk; cases hk
        · exact .inr h
      · rintro (h | h)
        · exact .inl (.inl h)
        · exact .inr h
theorem refMerge_spec (ls : List (List Ent)) : Srt (refMergeL ls) ∧ ∀ e, e ∈ refMergeL ls ↔ isFst ls.flatten e := by
  obtain ⟨h1, h2⟩ := fold_spec ls.flatten [] List.Pairwise.nil
  exact ⟨h1, fun e => by rw [refMergeL, h2 e]; simp [hasL]⟩

/-! ### the fronts' best -/
theorem bestQ_spec : ∀ (qs : List (List Ent)) (i : Nat) (b : Option (Nat × Ent)) (k : Nat) (a : Ent), bestQ qs i b = some (k, a) → (∀ j p, b = some (j, p) → j < i) →
    (∀ j p, b = some (j, p) → (k, a) = (j, p) ∨ bef a p = true) ∧ (b = none → i ≤ k) ∧ ∀ (m : Nat) (h : Ent) (t : List Ent), qs[m]? = some (h :: t) → bef h a = false ∧ (i + m < k → keq h a = false)
  | [], i, b, k, a, hb, _ => ⟨fun j p e => (by rw [bestQ, e] at hb; cases hb; exact .inl rfl), fun e => (by rw [bestQ, e] at hb; cases hb), fun m h t hm => by simp at hm⟩
  | l :: ls, i, b, k, a, hb, hlt => by
    rw [bestQ] at hb
    cases l with
    | nil =>
      obtain ⟨h1, h2, h3⟩ := bestQ_spec ls (i + 1) b k a hb fun j p e => by have := hlt j p e; omega
      refine ⟨h1, fun e => by have := h2 e; omega, fun m h t hm => ?_⟩
      cases m with
      | zero => simp at hm
      | succ m =>
        obtain ⟨q1, q2⟩ := h3 m h t (by simpa using hm)
        exact ⟨q1, fun hk => q2 (by omega)⟩
    | cons x t =>
      have key : ∀ (j : Nat) (p : Ent), bstep i (x :: t) b = some (j, p) → j < i + 1 := by
        intro j p e
        unfold bstep at e
        cases b with
        | none => simp at e; omega
        | some q =>
          obtain ⟨j', p'⟩ := q
          simp only at e
          split at e
          · simp at e; omega
          · simp at e; have := hlt j' p' rfl; omega
      obtain ⟨h1, h2, h3⟩ := bestQ_spec ls (i + 1) _ k a hb key
      cases b with
      | none =>
        have e1 := h1 i x rfl
        have hx : bef x a = false ∧ (i < k → keq x a = false) := by
          rcases e1 with e | e
          · cases e; exact ⟨bef_irr _, fun h => by omega⟩
          · refine ⟨bef_asymm e, fun _ => ?_⟩
            cases hk : keq x a with
            | false => rfl
            | true => rw [bef_keq_r hk] at e; rw [bef_irr] at e; cases e
        refine ⟨fun j p e => (by cases e), fun _ => ?_, fun m h t hm => ?_⟩
        · rcases bestQ_mem ls (i + 1) _ k a hb with h | ⟨h, _⟩
          · simp [bstep] at h; omega
          · omega
        · cases m with
          | zero => simp at hm; obtain ⟨rfl, rfl⟩ := hm; exact ⟨hx.1, fun h => hx.2 (by omega)⟩
          | succ m =>
            obtain ⟨q1, q2⟩ := h3 m h t (by simpa using hm)
            exact ⟨q1, fun hk => q2 (by omega)⟩
      | some q =>
        obtain ⟨j', p'⟩ := q
        have hj' := hlt j' p' rfl
        cases hc : bef x p' with
        | true =>
          have hbs : bstep i (x :: t) (some (j', p')) = some (i, x) := by simp [bstep, hc]
          have e1 := h1 i x hbs
          refine ⟨fun j p e => ?_, fun e => (by cases e), fun m h t hm => ?_⟩
          · cases e
            rcases e1 with e | e
            · cases e; exact .inr hc
            · exact .inr (bef_trans e hc)
          · cases m with
            | zero =>
              simp at hm; obtain ⟨rfl, rfl⟩ := hm
              rcases e1 with e | e
              · cases e; exact ⟨bef_irr _, fun h => by omega⟩
              · refine ⟨bef_asymm e, fun _ => ?_⟩
                cases hk : keq x a with
                | false => rfl
                | true => rw [bef_keq_r hk] at e; rw [bef_irr] at e; cases e
            | succ m =>
              obtain ⟨q1, q2⟩ := h3 m h t (by simpa using hm)
              exact ⟨q1, fun hk => q2 (by omega)⟩
        | false =>
          have hbs : bstep i (x :: t) (some (j', p')) = some (j', p') := by simp [bstep, hc]
          have e1 := h1 j' p' hbs
          refine ⟨fun j p e => (by cases e; exact e1), fun e => (by cases e), fun m h t hm => ?_⟩
          cases m with
          | zero =>
            simp at hm; obtain ⟨rfl, rfl⟩ := hm
            rcases e1 with e | e
            · cases e; exact ⟨hc, fun h => by omega⟩
            · constructor
              · cases hk : bef x a with
                | false => rfl
                | true => rw [bef_trans hk e] at hc; cases hc
              · intro _
                cases hk : keq x a with
                | false => rfl
                | true => rw [bef_keq_l hk, e] at hc; cases hc
          | succ m =>
            obtain ⟨q1, q2⟩ := h3 m h t (by simpa using hm)
            exact ⟨q1, fun hk => q2 (by omega)⟩
theorem bestQ_nil : ∀ (qs : List (List Ent)) (i : Nat) (b : Option (Nat × Ent)), bestQ qs i b = none → b = none ∧ qs.flatten = []
  | [], i, b, h => ⟨h, rfl⟩
  | l :: ls, i, b, h => by
    rw [bestQ] at h
    obtain ⟨h1, h2⟩ := bestQ_nil ls (i + 1) _ h
    cases l with
    | nil => exact ⟨h1, by simpa using h2⟩
    | cons a r =>
      unfold bstep at h1
      cases b with
      | none => cases h1
      | some p => obtain ⟨j, p⟩ := p; simp only at h1; split at h1 <;> cases h1

/-! ### one after the other -/
def mrgI : Nat → List (List Ent) → List Ent → List Ent
  | 0, _, out => out
  | T + 1, qs, out => match bestQ qs 0 none with
    | none => out
    | some (i, a) => mrgI T (popAt qs i) (takeOut out a)
theorem takeOut_ext (out : List Ent) (a : Ent) : ∃ s, takeOut out a = out ++ s := by
  unfold takeOut; split
  · exact ⟨[], by simp⟩
  · exact ⟨[a], rfl⟩
theorem mrgI_ext : ∀ (T : Nat) (qs : List (List Ent)) (out : List Ent), ∃ s, mrgI T qs out = out ++ s
  | 0, qs, out => ⟨[], by simp [mrgI]⟩
  | T + 1, qs, out => by
    unfold mrgI
    cases bestQ qs 0 none with
    | none => exact ⟨[], by simp⟩
    | some p =>
      obtain ⟨i, a⟩ := p
      obtain ⟨s1, h1⟩ := takeOut_ext out a
      obtain ⟨s2, h2⟩ := mrgI_ext T (popAt qs i) (takeOut out a)
      exact ⟨s1 ++ s2, by simp only; rw [h2, h1, List.append_assoc]⟩
theorem mrg_take : ∀ (T : Nat) (n : Int) (qs : List (List Ent)) (out : List Ent), mrg T n qs out = if (out.length : Int) < n then (mrgI T qs out).take n.toNat else out
  | 0, n, qs, out => by
    unfold mrg mrgI
    split
    · rw [List.take_of_length_le (by omega)]
    · rfl
  | T + 1, n, qs, out => by
    unfold mrg mrgI
    split
    · rename_i hn
      cases bestQ qs 0 none with
      | none => simp only; rw [List.take_of_length_le (by omega)]
      | some p =>
        obtain ⟨i, a⟩ := p
        simp only
        rw [mrg_take T n (popAt qs i) (takeOut out a)]
        split
        · rfl
        · rename_i hn2
          obtain ⟨s, hs⟩ := mrgI_ext T (popAt qs i) (takeOut out a)
          have hl : (takeOut out a).length ≤ out.length + 1 := by unfold takeOut; split <;> simp
          have he : n.toNat = (takeOut out a).length := by omega
          rw [hs, he, List.take_left]
    · rfl
theorem flat_at {qs : List (List Ent)} {i : Nat} {a : Ent} {r : List Ent} (h : qs[i]? = some (a :: r)) :
    qs.flatten = (qs.take i).flatten ++ a :: (r ++ (qs.drop (i + 1)).flatten) ∧ (popAt qs i).flatten = (qs.take i).flatten ++ (r ++ (qs.drop (i + 1)).flatten) := by
  have hlt := (List.getElem?_eq_some_iff.1 h).1
  have h2 : (qs.getD i []).tail = r := by rw [List.getD_eq_getElem?_getD, h]; rfl
  have hg : qs[i] = a :: r := (List.getElem?_eq_some_iff.1 h).2
  constructor
  · conv => lhs; rw [← List.take_append_drop i qs, List.drop_eq_getElem_cons hlt, hg]
    simp
  · unfold popAt; rw [h2, List.set_eq_take_append_cons_drop, if_pos hlt]
    simp
theorem find_skip {pre post : List Ent} {a e : Ent} (h : keq a e = false) : (pre ++ a :: post).find? (fun x => keq x e) = (pre ++ post).find? (fun x => keq x e) := by
  rw [List.find?_append, List.find?_append, List.find?_cons, h]
theorem find_here {pre post : List Ent} {a e : Ent} (h : keq a e = true) (hp : ∀ x ∈ pre, keq x a = false) : (pre ++ a :: post).find? (fun x => keq x e) = some a := by
  rw [List.find?_append, List.find?_eq_none.2 fun x hx => ?_, List.find?_cons, h]
  · rfl
  · intro hk
    have := hp x hx
    rw [keq_trans hk (keq_symm h)] at this; cases this
theorem srt_pop {qs : List (List Ent)} {i : Nat} (h : ∀ l ∈ qs, Srt l) : ∀ l ∈ popAt qs i, Srt l := by
  intro l hl
  unfold popAt at hl
  rcases List.mem_or_eq_of_mem_set hl with hl | rfl
  · exact h l hl
  · cases hq : qs[i]? with
    | none => rw [List.getD_eq_getElem?_getD, hq]; exact List.Pairwise.nil
    | some q =>
      have := h q (List.mem_of_getElem? hq)
      rw [List.getD_eq_getElem?_getD, hq]
      cases q with
      | nil => exact List.Pairwise.nil
      | cons a r => exact List.Pairwise.of_cons this
theorem mrgI_spec : ∀ (T : Nat) (qs : List (List Ent)) (out : List Ent), total qs = T → (∀ l ∈ qs, Srt l) → Srt out → (∀ p ∈ out, ∀ x ∈ qs.flatten, bef p x = true ∨ keq p x = true) →
    Srt (mrgI T qs out) ∧ ∀ e, e ∈ mrgI T qs out ↔ e ∈ out ∨ (isFst qs.flatten e ∧ hasL out e = false)
  | 0, qs, out, hT, hs, ho, hle => by
    have hb := bestQ_none hT
    obtain ⟨_, hf⟩ := bestQ_nil qs 0 none hb
    exact ⟨ho, fun e => by rw [hf]; simp [mrgI, isFst]⟩
  | T + 1, qs, out, hT, hs, ho, hle => by
    unfold mrgI
    cases hb : bestQ qs 0 none with
    | none =>
      obtain ⟨_, hf⟩ := bestQ_nil qs 0 none hb
      exact ⟨ho, fun e => by rw [hf]; simp [isFst]⟩
    | some p =>
      obtain ⟨i, a⟩ := p
      simp only
      obtain ⟨r, hqi⟩ := bestQ_get hb
      obtain ⟨_, _, hsp⟩ := bestQ_spec qs 0 none i a hb fun j p e => by cases e
      obtain ⟨hfl, hfl'⟩ := flat_at hqi
      have hpop := total_pop hqi
      have hsrt' := srt_pop (i := i) hs
      -- a is least
      have hleast : ∀ x ∈ qs.flatten, bef a x = true ∨ keq a x = true := by
        intro x hx
        obtain ⟨l, hl, hxl⟩ := List.mem_flatten.1 hx
        obtain ⟨m, hm⟩ := List.getElem?_of_mem hl
        cases l with
        | nil => simp at hxl
        | cons h t =>
          have h1 := (hsp m h t hm).1
          have h2 : bef a h = true ∨ keq a h = true := by
            rcases bef_tot a h with h3 | h3 | h3
            · exact .inl h3
            · exact .inr h3
            · rw [h1] at h3; cases h3
          rcases List.mem_cons.1 hxl with rfl | hxt
          · exact h2
          · have h4 := List.rel_of_pairwise_cons (hs _ hl) hxt
            rcases h2 with h2 | h2
            · exact .inl (bef_trans h2 h4)
            · left; rw [bef_keq_l h2]; exact h4
      have hpre : ∀ x ∈ (qs.take i).flatten, keq x a = false := by
        intro x hx
        obtain ⟨l, hl, hxl⟩ := List.mem_flatten.1 hx
        obtain ⟨m, hm⟩ := List.getElem?_of_mem hl
        have hmi : m < i := by
          have := (List.getElem?_eq_some_iff.1 hm).1
          rw [List.length_take] at this; omega
        rw [List.getElem?_take, if_pos hmi] at hm
        cases l with
        | nil => simp at hxl
        | cons h t =>
          obtain ⟨h1, h2⟩ := hsp m h t hm
          have h2 := h2 (by omega)
          have hah : bef a h = true := by
            rcases bef_tot a h with h3 | h3 | h3
            · exact h3
            · rw [keq_symm h3] at h2; cases h2
            · rw [h1] at h3; cases h3
          rcases List.mem_cons.1 hxl with rfl | hxt
          · exact h2
          · have h4 := List.rel_of_pairwise_cons (hs _ (List.mem_of_getElem? hm)) hxt
            have h5 := bef_trans hah h4
            cases hk : keq x a with
            | false => rfl
            | true => rw [bef_keq_r hk, bef_irr] at h5; cases h5
      have hmem : ∀ x, x ∈ (popAt qs i).flatten → x ∈ qs.flatten := by
        intro x hx
        rw [hfl'] at hx; rw [hfl]
        rcases List.mem_append.1 hx with hx | hx
        · exact List.mem_append_left _ hx
        · exact List.mem_append_right _ (List.mem_cons_of_mem _ hx)
      have ham : a ∈ qs.flatten := by rw [hfl]; simp
      cases hli : lastIs out a with
      | true =>
        have hto : takeOut out a = out := by unfold takeOut; rw [hli]; rfl
        rw [hto]
        obtain ⟨h1, h2⟩ := mrgI_spec T (popAt qs i) out (by omega) hsrt' ho fun p hp x hx => hle p hp x (hmem x hx)
        refine ⟨h1, fun e => ?_⟩
        rw [h2 e]
        have hha : hasL out a = true := by
          unfold lastIs at hli
          cases hg : out.getLast? with
          | none => rw [hg] at hli; cases hli
          | some p => rw [hg] at hli; exact hasL_iff.2 ⟨p, List.mem_of_getLast? hg, hli⟩
        cases hk : keq a e with
        | true =>
          have : hasL out e = true := by rw [← hasL_congr hk]; exact hha
          simp [this]
        | false =>
          unfold isFst
          rw [hfl, hfl', find_skip hk]
      | false =>
        have hto : takeOut out a = out ++ [a] := by unfold takeOut; rw [hli]; rfl
        rw [hto]
        have hba : ∀ p ∈ out, bef p a = true := by
          intro p hp
          rcases hle p hp a ham with h | h
          · exact h
          · exfalso
            -- p must be the last one
            have hne : out ≠ [] := List.ne_nil_of_mem hp
            have hg := List.getLast?_eq_some_getLast hne
            have hlast : out.getLast hne ∈ out := List.getLast_mem hne
            have hd := List.dropLast_concat_getLast hne
            unfold lastIs at hli
            rw [hg] at hli
            simp only at hli
            rw [← hd] at hp
            rcases List.mem_append.1 hp with hp | hp
            · rw [← hd] at ho
              have h5 := (List.pairwise_append.1 ho).2.2 p hp (out.getLast hne) (by simp)
              rcases hle _ hlast a ham with h6 | h6
              · have := bef_trans h5 h6
                rw [bef_keq_l h, bef_irr] at this; cases this
              · rw [h6] at hli; cases hli
            · simp at hp; subst hp; rw [h] at hli; cases hli
        have hna : hasL out a = false := by
          cases hx : hasL out a with
          | false => rfl
          | true =>
            obtain ⟨b, hb, hbk⟩ := hasL_iff.1 hx
            have := bef_not_keq (hba b hb)
            rw [hbk] at this; cases this
        have ho' : Srt (out ++ [a]) := List.pairwise_append.2 ⟨ho, List.pairwise_singleton _ a, fun p hp b hb => by simp at hb; subst hb; exact hba p hp⟩
        obtain ⟨h1, h2⟩ := mrgI_spec T (popAt qs i) (out ++ [a]) (by omega) hsrt' ho' fun p hp x hx => by
          rcases List.mem_append.1 hp with hp | hp
          · exact hle p hp x (hmem x hx)
          · simp at hp; subst hp; exact hleast x (hmem x hx)
        refine ⟨h1, fun e => ?_⟩
        rw [h2 e]
        have hcl : hasL (out ++ [a]) e = (hasL out e || keq a e) := by simp [hasL]
        rw [hcl]
        cases hk : keq a e with
        | true =>
          have hfi : isFst qs.flatten e ↔ e = a := by
            unfold isFst
            rw [hfl, find_here hk hpre, Option.some.injEq]
            exact eq_comm
          have hne : hasL out e = false := by rw [← hasL_congr hk]; exact hna
          rw [hfi, hne]
          simp
        | false =>
          have hea : e ≠ a := fun e1 => by subst e1; rw [keq_refl] at hk; cases hk
          unfold isFst
          rw [hfl, hfl', find_skip hk]
          simp [hea]
def goodL' (ls : List (List Ent)) : Prop := ∀ l ∈ ls, Srt l
theorem mrgI_ref {ls : List (List Ent)} (h : goodL' ls) : mrgI (total ls) ls [] = refMergeL ls := by
  obtain ⟨h1, h2⟩ := mrgI_spec (total ls) ls [] rfl h List.Pairwise.nil (by simp)
  obtain ⟨h3, h4⟩ := refMerge_spec ls
  exact srt_unique h1 h3 fun e => by rw [h2 e, h4 e]; simp [hasL]
end Go.Proofs.Ytdajdembeacefaa.M

/-
  PLAIN LAWS, 3 (no program): making a list short is not to be seen at the floor or later; done twice it does nothing more.
-/
import Derived.Test.YtdajdembeacefaaCB
set_option linter.unusedSimpArgs false
set_option linter.unusedVariables false
namespace Go.Proofs.Ytdajdembeacefaa.M
open Go.Conc

theorem srt_filter {l : List Ent} (h : Srt l) (F : Ent → Bool) : Srt (l.filter F) := List.Pairwise.filter _ h
theorem pk_iff {key : ByteArray} {seq : Int} {e : Ent} : pk key seq e = true ↔ e.key.toList = key.toList ∧ e.seq ≤ seq := by
  unfold pk; simp
/-- Of one key's entries in order the first has the greatest number. -/
theorem find_first {l : List Ent} (h : Srt l) {key : ByteArray} {s : Int} {u : Ent} (hu : l.find? (pk key s) = some u) {e : Ent} (he : e ∈ l) (hp : pk key s e = true) : e = u ∨ (bef u e = true ∧ e.seq < u.seq) := by
  obtain ⟨hpu, xs, ys, rfl, hno⟩ := List.find?_eq_some_iff_append.1 hu
  rcases List.mem_append.1 he with h1 | h1
  · have := hno e h1; rw [hp] at this; simp at this
  · rcases List.mem_cons.1 h1 with rfl | h1
    · exact .inl rfl
    · have hb : bef u e = true := List.rel_of_pairwise_cons (List.pairwise_append.1 h).2.1 h1
      refine .inr ⟨hb, ?_⟩
      have k1 := (pk_iff.1 hp).1
      have k2 := (pk_iff.1 hpu).1
      rcases bef_iff.1 hb with h2 | ⟨_, h2⟩
      · rw [k1, k2, bl_irr] at h2; cases h2
      · exact h2
theorem find_some {l : List Ent} {key : ByteArray} {s : Int} {e : Ent} (he : e ∈ l) (hp : pk key s e = true) : ∃ u, l.find? (pk key s) = some u := by
  cases hf : l.find? (pk key s) with
  | some u => exact ⟨u, rfl⟩
  | none => exact absurd hp (List.find?_eq_none.1 hf e he)
theorem find_is {l : List Ent} (h : Srt l) {key : ByteArray} {s : Int} {e : Ent} (he : e ∈ l) (hp : pk key s e = true) (hall : ∀ u ∈ l, pk key s u = true → e.seq < u.seq → False) : l.find? (pk key s) = some e := by
  obtain ⟨u, hu⟩ := find_some he hp
  rcases find_first h hu he hp with rfl | ⟨_, h2⟩
  · exact hu
  · exact (hall u (List.mem_of_find?_eq_some hu) (List.find?_some hu) h2).elim
theorem pk_key {k k' : ByteArray} (h : k.toList = k'.toList) (s : Int) : pk k s = pk k' s := by funext e; unfold pk; rw [h]

/-- Is the entry what is visible of its key? -/
def isVis (l : List Ent) (s : Int) (e : Ent) : Bool := (match l.find? (pk e.key s) with | some u => u.seq == e.seq | none => false) && !e.del
def toPr (e : Ent) : Pr := ⟨e.key, e.val⟩
theorem same_seq {l : List Ent} (h : Srt l) {a b : Ent} (ha : a ∈ l) (hb : b ∈ l) (hk : a.key.toList = b.key.toList) (hs : a.seq = b.seq) : a = b := by
  obtain ⟨i, hi, rfl⟩ := List.getElem_of_mem ha
  obtain ⟨j, hj, rfl⟩ := List.getElem_of_mem hb
  have hne : ∀ {x y : Ent}, x.key.toList = y.key.toList → x.seq = y.seq → bef x y = false := fun {x y} h1 h2 => by
    cases hb : bef x y with
    | false => rfl
    | true =>
      rcases bef_iff.1 hb with h3 | ⟨_, h3⟩
      · rw [h1, bl_irr] at h3; cases h3
      · omega
  rcases Nat.lt_trichotomy i j with hij | hij | hij
  · have := List.pairwise_iff_getElem.1 h i j hi hj hij
    rw [hne hk hs] at this; cases this
  · subst hij; rfl
  · have := List.pairwise_iff_getElem.1 h j i hj hi hij
    rw [hne hk.symm hs.symm] at this; cases this
theorem isVis_iff {l : List Ent} (h : Srt l) {s : Int} {e : Ent} (he : e ∈ l) : isVis l s e = true ↔ l.find? (pk e.key s) = some e ∧ e.del = false := by
  unfold isVis
  rw [Bool.and_eq_true]
  refine and_congr ?_ (by simp)
  cases hf : l.find? (pk e.key s) with
  | none => simp
  | some u =>
    simp only [beq_iff_eq, Option.some.injEq]
    refine ⟨fun hs => same_seq h (List.mem_of_find?_eq_some hf) he (pk_iff.1 (List.find?_some hf)).1 hs, fun e1 => by rw [e1]⟩
theorem filter_one {l : List Ent} (h : Srt l) {u : Ent} (hu : u ∈ l) {P : Ent → Bool} (hP : ∀ e ∈ l, P e = true ↔ e = u) : l.filter P = [u] := by
  refine srt_unique (srt_filter h P) (List.pairwise_singleton _ u) fun e => ?_
  rw [List.mem_filter, List.mem_singleton]
  exact ⟨fun ⟨h1, h2⟩ => (hP e h1).1 h2, fun e1 => by subst e1; exact ⟨hu, (hP _ hu).2 rfl⟩⟩
theorem group_split {a : Ent} {l : List Ent} (hs : Srt (a :: l)) : ∃ g r, a :: l = (a :: g) ++ r ∧ (∀ x ∈ a :: g, keyIs a.key x = true) ∧ ∀ x ∈ r, keyIs a.key x = false := by
  have haa : keyIs a.key a = true := by simp [keyIs]
  have hsplit : (a :: l).takeWhile (keyIs a.key) ++ (a :: l).dropWhile (keyIs a.key) = a :: l := List.takeWhile_append_dropWhile
  have hg : ∀ x ∈ (a :: l).takeWhile (keyIs a.key), keyIs a.key x = true := fun x hx => mem_tw hx
  have htw : (a :: l).takeWhile (keyIs a.key) = a :: l.takeWhile (keyIs a.key) := List.takeWhile_cons_of_pos haa
  generalize hr : (a :: l).dropWhile (keyIs a.key) = r at hsplit
  generalize hgg : l.takeWhile (keyIs a.key) = g at htw
  rw [htw] at hsplit hg
  refine ⟨g, r, hsplit.symm, hg, fun x hx => ?_⟩
  cases r with
  | nil => simp at hx
  | cons y r' =>
    have hy : keyIs a.key y = false := by
      have := List.head?_dropWhile_not (keyIs a.key) (a :: l)
      rw [hr] at this
      simpa using this
    have hsr : Srt ((a :: g) ++ y :: r') := by rw [hsplit]; exact hs
    have hay : bef a y = true := (List.pairwise_append.1 hsr).2.2 a (List.mem_cons_self ..) y (List.mem_cons_self ..)
    have hlt : Op.bytesLess a.key.toList y.key.toList = true := by
      rcases bef_iff.1 hay with h1 | ⟨h1, _⟩
      · exact h1
      · unfold keyIs at hy; rw [h1] at hy; simp at hy
    rcases List.mem_cons.1 hx with rfl | hx
    · exact hy
    · have hyx : bef y x = true := List.rel_of_pairwise_cons (List.pairwise_append.1 hsr).2.1 hx
      have hlt2 : Op.bytesLess a.key.toList x.key.toList = true := by
        rcases bef_iff.1 hyx with h1 | ⟨h1, _⟩
        · exact bl_trans hlt h1
        · rw [← h1]; exact hlt
      cases hk : keyIs a.key x with
      | false => rfl
      | true =>
        have : x.key.toList = a.key.toList := by simpa [keyIs] using hk
        rw [this, bl_irr] at hlt2; cases hlt2
/-- What is visible, entry by entry. -/
theorem vis_filter {s : Int} : ∀ (n : Nat) (l : List Ent), l.length ≤ n → Srt l → visF s n l = (l.filter (isVis l s)).map toPr
  | 0, [], _, _ => rfl
  | 0, _ :: _, h, _ => by simp at h
  | n + 1, [], _, _ => rfl
  | n + 1, a :: l, hn, hs => by
    obtain ⟨g, r, hsplit, hg, hrk⟩ := group_split hs
    have hv := visIn_spec (seq := s) hrk hg
    have hsr : Srt ((a :: g) ++ r) := by rw [← hsplit]; exact hs
    have hlr : r.length ≤ n := by
      have := congrArg List.length hsplit
      simp at this hn; omega
    have h1 := (List.pairwise_append.1 hsr).1
    have h2 := (List.pairwise_append.1 hsr).2.1
    have ih := vis_filter (s := s) n r hlr h2
    show (visIn s a.key (a :: l)).1 ++ visF s n (visIn s a.key (a :: l)).2 = _
    rw [hsplit, hv, ih, List.filter_append, List.map_append]
    have hrest : r.filter (isVis ((a :: g) ++ r) s) = r.filter (isVis r s) := by
      refine List.filter_congr fun e he => ?_
      have : ((a :: g) ++ r).find? (pk e.key s) = r.find? (pk e.key s) := by
        rw [List.find?_append]
        have hno : (a :: g).find? (pk e.key s) = none := List.find?_eq_none.2 fun x hx => by
          have e1 : x.key.toList = a.key.toList := by simpa [keyIs] using hg x hx
          have e2 : ¬ e.key.toList = a.key.toList := by simpa [keyIs] using hrk e he
          intro hp
          exact e2 ((pk_iff.1 hp).1.symm.trans e1)
        rw [hno]; rfl
      unfold isVis; rw [this]
    rw [hrest]
    congr 1
    have hfind : ((a :: g) ++ r).find? (pk a.key s) = (a :: g).find? (pk a.key s) := by
      rw [List.find?_append]
      have hno : r.find? (pk a.key s) = none := List.find?_eq_none.2 fun x hx => by
        have e2 : ¬ x.key.toList = a.key.toList := by simpa [keyIs] using hrk x hx
        intro hp; exact e2 (pk_iff.1 hp).1
      rw [hno, Option.or_none]
    have hkey : ∀ e ∈ a :: g, ((a :: g) ++ r).find? (pk e.key s) = (a :: g).find? (pk a.key s) := fun e he => by
      rw [pk_key (show e.key.toList = a.key.toList by simpa [keyIs] using hg e he) s, hfind]
    rw [hfind]
    cases hf : (a :: g).find? (pk a.key s) with
    | none =>
      have : (a :: g).filter (isVis ((a :: g) ++ r) s) = [] := List.filter_eq_nil_iff.2 fun e he => by
        unfold isVis; rw [hkey e he, hf]; simp
      rw [this]; rfl
    | some u =>
      have hu : u ∈ a :: g := List.mem_of_find?_eq_some hf
      have hiff : ∀ e ∈ a :: g, isVis ((a :: g) ++ r) s e = true ↔ e = u ∧ e.del = false := fun e he => by
        rw [isVis_iff hsr (List.mem_append_left _ he), hkey e he, hf, Option.some.injEq]
        exact and_congr_left fun _ => eq_comm
      cases hd : u.del with
      | true =>
        have : (a :: g).filter (isVis ((a :: g) ++ r) s) = [] := List.filter_eq_nil_iff.2 fun e he hc => by
          obtain ⟨h3, h4⟩ := (hiff e he).1 hc
          rw [h3, hd] at h4; cases h4
        rw [this]; simp [getV, hd]
      | false =>
        rw [filter_one h1 hu fun e he => (hiff e he).trans ⟨fun h => h.1, fun h => ⟨h, by rw [h]; exact hd⟩⟩]
        simp [getV, hd, toPr]
theorem visL_filter {l : List Ent} (h : Srt l) (s : Int) : visL l s = (l.filter (isVis l s)).map toPr := vis_filter l.length l (Nat.le_refl _) h

/-! ### the short list -/
theorem keep_iff {l : List Ent} (h : Srt l) {floor : Int} {bottom : Bool} {e : Ent} (he : e ∈ l) : keepAt l floor bottom e = true ↔ floor < e.seq ∨ (l.find? (pk e.key floor) = some e ∧ ¬ (bottom = true ∧ e.del = true)) := by
  unfold keepAt
  rw [getL_find _ _ h, Bool.or_eq_true, decide_eq_true_eq]
  refine or_congr Iff.rfl ?_
  cases hf : l.find? (pk e.key floor) with
  | none => simp [keepOk]
  | some u =>
    simp only [keepOk, Bool.and_eq_true, beq_iff_eq, Option.some.injEq, Bool.not_eq_true', Bool.and_eq_false_iff]
    constructor
    · rintro ⟨h1, h2⟩
      refine ⟨same_seq h (List.mem_of_find?_eq_some hf) he (pk_iff.1 (List.find?_some hf)).1 h1, ?_⟩
      rintro ⟨h3, h4⟩; rw [h3, h4] at h2; simp at h2
    · rintro ⟨h1, h2⟩
      refine ⟨by rw [h1], ?_⟩
      cases bottom <;> cases hd : e.del <;> simp_all
theorem comp_vis {l : List Ent} (h : Srt l) {floor s : Int} (hs : floor ≤ s) (bottom : Bool) : visL (refCompL l floor bottom) s = visL l s := by
  have h' := srt_filter h (keepAt l floor bottom)
  unfold refCompL
  rw [visL_filter h', visL_filter h, List.filter_filter]
  congr 1
  refine List.filter_congr fun e he => ?_
  rw [Bool.eq_iff_iff, Bool.and_eq_true]
  rw [isVis_iff h he]
  constructor
  · rintro ⟨h1, h2⟩
    have hel : e ∈ l.filter (keepAt l floor bottom) := List.mem_filter.2 ⟨he, h2⟩
    obtain ⟨h3, h4⟩ := (isVis_iff h' hel).1 h1
    refine ⟨?_, h4⟩
    have hp : pk e.key s e = true := List.find?_some h3
    refine find_is h he hp fun u hu hpu hlt => ?_
    -- u comes earlier and isn't kept
    have hk := pk_iff.1 hpu
    have hun : keepAt l floor bottom u = false := by
      cases hku : keepAt l floor bottom u with
      | false => rfl
      | true =>
        rcases find_first h' h3 (List.mem_filter.2 ⟨hu, hku⟩) hpu with rfl | ⟨_, h5⟩ <;> omega
    have hle : u.seq ≤ floor := by
      refine Classical.byContradiction fun hn => ?_
      rw [(keep_iff h hu).2 (.inl (by omega))] at hun; cases hun
    rcases (keep_iff h he).1 h2 with h5 | ⟨h5, _⟩
    · omega
    · rcases find_first h h5 hu (pk_iff.2 ⟨hk.1, hle⟩) with rfl | ⟨_, h6⟩ <;> omega
  · rintro ⟨h1, h2⟩
    have hp : pk e.key s e = true := List.find?_some h1
    have hke : keepAt l floor bottom e = true := by
      rw [keep_iff h he]
      by_cases hf : floor < e.seq
      · exact .inl hf
      · refine .inr ⟨find_is h he (pk_iff.2 ⟨rfl, by omega⟩) fun u hu hpu hlt => ?_, by simp [h2]⟩
        have hk := pk_iff.1 hpu
        rcases find_first h h1 hu (pk_iff.2 ⟨hk.1, by omega⟩) with rfl | ⟨_, h6⟩ <;> omega
    have hel : e ∈ l.filter (keepAt l floor bottom) := List.mem_filter.2 ⟨he, hke⟩
    refine ⟨(isVis_iff h' hel).2 ⟨find_is h' hel hp fun u hu hpu hlt => ?_, h2⟩, hke⟩
    rcases find_first h h1 (List.mem_filter.1 hu).1 hpu with rfl | ⟨_, h6⟩ <;> omega
theorem comp_comp {l : List Ent} (h : Srt l) (floor : Int) (bottom : Bool) : refCompL (refCompL l floor bottom) floor bottom = refCompL l floor bottom := by
  have h' : Srt (refCompL l floor bottom) := srt_filter h _
  conv => lhs; unfold refCompL
  refine List.filter_eq_self.2 fun e he => ?_
  obtain ⟨hel, hke⟩ := List.mem_filter.1 (show e ∈ l.filter (keepAt l floor bottom) from he)
  show keepAt (refCompL l floor bottom) floor bottom e = true
  rw [keep_iff h' he]
  rcases (keep_iff h hel).1 hke with h1 | ⟨h1, h2⟩
  · exact .inl h1
  · refine .inr ⟨find_is h' he (List.find?_some h1) fun u hu hpu hlt => ?_, h2⟩
    rcases find_first h h1 (List.mem_filter.1 hu).1 hpu with rfl | ⟨_, h6⟩ <;> omega
end Go.Proofs.Ytdajdembeacefaa.M

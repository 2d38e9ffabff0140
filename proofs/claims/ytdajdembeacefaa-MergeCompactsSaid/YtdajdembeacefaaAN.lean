/-
  FIRST's answer on lists: the fronts' best; one after the other is taken. (No program.) And how fronts and lists belong together.
-/
import Derived.Test.YtdajdembeacefaaAM
set_option linter.unusedSimpArgs false
set_option linter.unusedVariables false
namespace Go.Proofs.Ytdajdembeacefaa.M
open Go.Conc

def bstep (i : Nat) (l : List Ent) (b : Option (Nat × Ent)) : Option (Nat × Ent) := match l with
  | [] => b
  | a :: _ => match b with
    | none => some (i, a)
    | some (j, p) => if bef a p then some (i, a) else some (j, p)
def bestQ : List (List Ent) → Nat → Option (Nat × Ent) → Option (Nat × Ent)
  | [], _, b => b
  | l :: ls, i, b => bestQ ls (i + 1) (bstep i l b)
def lastIs (out : List Ent) (a : Ent) : Bool := match out.getLast? with
  | none => false
  | some p => keq p a
def takeOut (out : List Ent) (a : Ent) : List Ent := if lastIs out a then out else out ++ [a]
def total (qs : List (List Ent)) : Nat := (qs.map List.length).sum
def popAt (qs : List (List Ent)) (i : Nat) : List (List Ent) := qs.set i (qs.getD i []).tail
def mrg : Nat → Int → List (List Ent) → List Ent → List Ent
  | 0, _, _, out => out
  | T + 1, n, qs, out => if (out.length : Int) < n then
      match bestQ qs 0 none with
      | none => out
      | some (i, a) => mrg T n (popAt qs i) (takeOut out a)
    else out

theorem bestQ_mem : ∀ (qs : List (List Ent)) (i : Nat) (b : Option (Nat × Ent)) (j : Nat) (a : Ent), bestQ qs i b = some (j, a) → b = some (j, a) ∨ (i ≤ j ∧ ∃ r, qs[j - i]? = some (a :: r))
  | [], i, b, j, a, h => .inl h
  | l :: ls, i, b, j, a, h => by
    rcases bestQ_mem ls (i + 1) _ j a h with h1 | ⟨h1, r, h2⟩
    · unfold bstep at h1
      cases l with
      | nil => exact .inl h1
      | cons a' r =>
        simp only at h1
        cases b with
        | none => simp at h1; obtain ⟨rfl, rfl⟩ := h1; exact .inr ⟨Nat.le_refl _, r, by simp⟩
        | some p =>
          obtain ⟨j', p⟩ := p
          simp only at h1
          split at h1
          · cases h1; exact .inr ⟨Nat.le_refl _, r, by simp⟩
          · exact .inl h1
    · exact .inr ⟨by omega, r, by rw [show j - i = (j - (i + 1)) + 1 by omega]; simpa using h2⟩
theorem bestQ_get {qs : List (List Ent)} {i : Nat} {a : Ent} (h : bestQ qs 0 none = some (i, a)) : ∃ r, qs[i]? = some (a :: r) := by
  rcases bestQ_mem qs 0 none i a h with h | ⟨_, r, h⟩
  · cases h
  · exact ⟨r, by simpa using h⟩
theorem total_set : ∀ {qs : List (List Ent)} {i : Nat} {l l' : List Ent}, qs[i]? = some l → total (qs.set i l') + l.length = total qs + l'.length
  | [], i, l, l', h => by simp at h
  | q :: qs, 0, l, l', h => by simp at h; subst h; simp [total]; omega
  | q :: qs, i + 1, l, l', h => by
    have := total_set (qs := qs) (i := i) (l := l) (l' := l') (by simpa using h)
    simp [total] at this ⊢; omega
theorem total_pop {qs : List (List Ent)} {i : Nat} {a : Ent} {r : List Ent} (h : qs[i]? = some (a :: r)) : total (popAt qs i) + 1 = total qs := by
  have h1 := total_set (l' := r) h
  have h2 : (qs.getD i []).tail = r := by rw [List.getD_eq_getElem?_getD, h]; rfl
  unfold popAt; rw [h2]
  simp at h1; omega
theorem bestQ_none {qs : List (List Ent)} (h : total qs = 0) : bestQ qs 0 none = none := by
  cases hb : bestQ qs 0 none with
  | none => rfl
  | some p =>
    obtain ⟨r, hr⟩ := bestQ_get (i := p.1) (a := p.2) hb
    have := total_pop hr
    omega

/-- A front and what is left of its list. -/
def FQ (q : Fro) : List Ent → Prop
  | [] => q.more = false
  | a :: _ => q.more = true ∧ q.e = a
theorem FQ_rcv (q : Fro) (r : List Ent) : FQ (rcvE q r) r := by cases r <;> first | rfl | exact ⟨rfl, rfl⟩
structure Mat (fro : List Fro) (qs : List (List Ent)) (sn : List Snd) : Prop where
  len : fro.length = qs.length
  lens : sn.length = qs.length
  fq : ∀ (i : Nat) (q : Fro) (l : List Ent), fro[i]? = some q → qs[i]? = some l → FQ q l ∧ sn[i]? = some (q.c, l.tail.map Ent.v)
theorem best_match : ∀ (fro : List Fro) (qs : List (List Ent)) (i : Nat) (b : Option (Nat × Fro)), fro.length = qs.length → (∀ (i : Nat) (q : Fro) (l : List Ent), fro[i]? = some q → qs[i]? = some l → FQ q l) →
    (bestOf fro i b).map (fun p => (p.1, p.2.e)) = bestQ qs i (b.map fun p => (p.1, p.2.e))
  | [], [], i, b, _, _ => rfl
  | [], _ :: _, i, b, h, _ => by simp at h
  | _ :: _, [], i, b, h, _ => by simp at h
  | q :: fro, l :: qs, i, b, h, hm => by
    have h0 : FQ q l := hm 0 q l rfl rfl
    have ih := best_match fro qs (i + 1) (bestStep i q b) (by simpa using h) fun j q' l' h1 h2 => hm (j + 1) q' l' (by simpa using h1) (by simpa using h2)
    simp only [bestOf, bestQ]
    rw [ih]
    congr 1
    unfold bestStep bstep
    cases l with
    | nil => rw [show q.more = false from h0]; simp
    | cons a r =>
      obtain ⟨h1, h2⟩ := h0
      rw [h1]
      cases b with
      | none => simp [better, h2]
      | some p =>
        obtain ⟨j, p⟩ := p
        simp only [better, Bool.true_and, Option.map_some, h2]
        split <;> simp [h2]
theorem Mat.best {fro : List Fro} {qs : List (List Ent)} {sn : List Snd} (h : Mat fro qs sn) : (bestOf fro 0 none).map (fun p => (p.1, p.2.e)) = bestQ qs 0 none :=
  best_match fro qs 0 none h.len fun i q l h1 h2 => (h.fq i q l h1 h2).1
/-- Behind a receive. -/
theorem Mat.pop {fro : List Fro} {qs : List (List Ent)} {sn : List Snd} (h : Mat fro qs sn) {i : Nat} {q : Fro} {a : Ent} {r : List Ent} (hf : fro[i]? = some q) (hq : qs[i]? = some (a :: r)) :
    Mat (fro.set i (rcvE q r)) (popAt qs i) (rcvS sn i q.c r) := by
  have h2 : (qs.getD i []).tail = r := by rw [List.getD_eq_getElem?_getD, hq]; rfl
  have hsn := (h.fq i q _ hf hq).2
  have hil := (List.getElem?_eq_some_iff.1 hf).1
  have hql := (List.getElem?_eq_some_iff.1 hq).1
  unfold popAt; rw [h2]
  have hls : (rcvS sn i q.c r).length = sn.length := by cases r <;> simp [rcvS]
  refine ⟨by simp [h.len], by rw [hls, h.lens]; simp, fun j p l hp hl => ?_⟩
  by_cases hij : i = j
  · subst hij
    rw [List.getElem?_set_self hil] at hp
    rw [List.getElem?_set_self hql] at hl
    cases hp; cases hl
    refine ⟨FQ_rcv q r, ?_⟩
    rw [rcvE_c]
    cases r with
    | nil => simpa [rcvS] using hsn
    | cons a' r' =>
      simp only [rcvS, List.tail_cons]
      rw [List.getElem?_set_self (by rw [h.lens]; exact hql)]
  · rw [List.getElem?_set_ne hij] at hp hl
    obtain ⟨h3, h4⟩ := h.fq j p l hp hl
    refine ⟨h3, ?_⟩
    cases r with
    | nil => simpa [rcvS] using h4
    | cons a' r' => simp only [rcvS]; rw [List.getElem?_set_ne hij]; exact h4
/-- One sender more; its first value is received. -/
theorem Mat.push {fro : List Fro} {qs : List (List Ent)} {sn : List Snd} (h : Mat fro qs sn) (q : Fro) (l : List Ent) : Mat (fro ++ [rcvE q l]) (qs ++ [l]) (rcvS (sn ++ [(q.c, l.map Ent.v)]) sn.length q.c l) := by
  have hls : (rcvS (sn ++ [(q.c, l.map Ent.v)]) sn.length q.c l).length = sn.length + 1 := by cases l <;> simp [rcvS]
  refine ⟨by simp [h.len], by rw [hls, h.lens]; simp, fun j p l' hp hl => ?_⟩
  by_cases hj : j < fro.length
  · rw [List.getElem?_append_left hj] at hp
    rw [List.getElem?_append_left (by rw [← h.len]; exact hj)] at hl
    obtain ⟨h1, h2⟩ := h.fq j p l' hp hl
    refine ⟨h1, ?_⟩
    have hjs : j < sn.length := by rw [h.lens, ← h.len]; exact hj
    cases l with
    | nil => simp only [rcvS]; rw [List.getElem?_append_left hjs]; exact h2
    | cons a r => simp only [rcvS]; rw [List.getElem?_set_ne (by omega), List.getElem?_append_left hjs]; exact h2
  · have h1 := (List.getElem?_eq_some_iff.1 hp).1
    simp at h1
    have hje : j = fro.length := by omega
    subst hje
    rw [List.getElem?_append_right (Nat.le_refl _)] at hp
    rw [List.getElem?_append_right (by rw [h.len]; exact Nat.le_refl _)] at hl
    simp at hp
    simp [h.len] at hl
    subst hp hl
    refine ⟨FQ_rcv q l, ?_⟩
    rw [rcvE_c, h.len, ← h.lens]
    cases l with
    | nil => simp [rcvS]
    | cons a r => simp [rcvS]
end Go.Proofs.Ytdajdembeacefaa.M

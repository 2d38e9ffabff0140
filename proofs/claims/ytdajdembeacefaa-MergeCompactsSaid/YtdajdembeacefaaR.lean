/-
  THE CALCULUS, 6: slices that are read; loops.
-/
import Derived.Test.YtdajdembeacefaaQ
import Derived.Test.YtdajdembeacefaaD
set_option linter.unusedSimpArgs false
set_option linter.unusedVariables false
namespace Go.Proofs.Ytdajdembeacefaa.M
open Go.Conc

theorem wrap64 (z : Int) (h : -9223372036854775808 ≤ z) (h' : z < 9223372036854775808) : IntKind.i64.wrap z = z := by
  rw [IntKind.wrap_i64]; omega

/-- A slice of elements of so many cells each, as known. -/
def Sl (sz : Nat) (L : Addr → Option Value) (v : Value) (cs : List (Array Value)) : Prop :=
  (cs = [] ∧ ∃ a c, v = .slice a 0 c) ∨
  ∃ b o c, v = .slice (some ⟨b, o, none⟩) cs.length c ∧ cs.length ≤ c ∧ ∀ (i : Nat) (a : Array Value), cs[i]? = some a → a.size = sz ∧ ∀ k, k < sz → L ⟨b, o + i * sz + k, none⟩ = a[k]?
theorem Sl.mono {sz : Nat} {L L' : Addr → Option Value} {v : Value} {cs : List (Array Value)} (h : Sl sz L v cs) (hL : ∀ a v, L a = some v → L' a = some v) : Sl sz L' v cs := by
  refine h.imp id fun ⟨b, o, c, h1, h2, h3⟩ => ⟨b, o, c, h1, h2, fun i a hi => ⟨(h3 i a hi).1, fun k hk => ?_⟩⟩
  have hs := (h3 i a hi).1
  have h4 := (h3 i a hi).2 k hk
  have : a[k]? = some a[k] := Array.getElem?_eq_getElem (by omega)
  rw [this] at h4 ⊢
  exact hL _ _ h4
theorem Sl.rely {sz : Nat} {x : Th} {O O1 : Gh} {w w1 : World} {v : Value} {cs : List (Array Value)} (h : Sl sz (ldOf x O w) v cs) (r : Rel x O w O1 w1) : Sl sz (ldOf x O1 w1) v cs := h.mono fun _ _ h => ldOf_rely r h
theorem Sl.len {sz : Nat} {L : Addr → Option Value} {v : Value} {cs : List (Array Value)} (h : Sl sz L v cs) : lenL v = some (.value (.int .i64 cs.length)) := by
  rcases h with ⟨rfl, a, c, rfl⟩ | ⟨b, o, c, rfl, _⟩ <;> rfl

def SlE (L : Addr → Option Value) (v : Value) (l : List Ent) : Prop := Sl 4 L v (l.map Ent.cells)
theorem SlE.len {L : Addr → Option Value} {v : Value} {l : List Ent} (h : SlE L v l) : lenL v = some (.value (.int .i64 l.length)) := by
  have := Sl.len h; rwa [List.length_map] at this
theorem SlE.rely {x : Th} {O O1 : Gh} {w w1 : World} {v : Value} {l : List Ent} (h : SlE (ldOf x O w) v l) (r : Rel x O w O1 w1) : SlE (ldOf x O1 w1) v l := Sl.rely h r
/-- Its element number i, at address A. -/
structure AtE (L : Addr → Option Value) (v : Value) (i : Nat) (e : Ent) (A : Addr) : Prop where
  idx : idxL 4 v (.int .i64 i) = some (.value (.pointer (some A)))
  whole : loadN L 4 (.pointer (some A)) = some (.value e.v)
  f0 : L A = some (.string e.key)
  f1 : L ⟨A.block, A.off + 1, none⟩ = some (.int .i64 e.seq)
  f2 : L ⟨A.block, A.off + 2, none⟩ = some (.bool e.del)
  f3 : L ⟨A.block, A.off + 3, none⟩ = some (.string e.val)
theorem add_none (b o n : Nat) : (⟨b, o, none⟩ : Addr).add n = ⟨b, o + n, none⟩ := by unfold Addr.add; split <;> simp_all
theorem SlE.at {L : Addr → Option Value} {v : Value} {l : List Ent} (h : SlE L v l) {i : Nat} {e : Ent} (hi : l[i]? = some e) : ∃ A, AtE L v i e A := by
  have hlt := (List.getElem?_eq_some_iff.1 hi).1
  rcases h with ⟨h, _⟩ | ⟨b, o, c, rfl, hc, h⟩
  · have : l = [] := by simpa using h
    subst this; simp at hi
  · obtain ⟨_, h⟩ := h i e.cells (by rw [List.getElem?_map, hi]; rfl)
    have h0 := h 0 (by omega)
    have h1 := h 1 (by omega)
    have h2 := h 2 (by omega)
    have h3 := h 3 (by omega)
    refine ⟨⟨b, o + i * 4, none⟩, ?_, ?_, h0, h1, h2, h3⟩
    · rw [List.length_map, idxL_some 4 _ _ _ i _ hlt, add_none]
    · exact loadN4 (by rw [add_none]; exact h0) (by rw [add_none]; exact h1) (by rw [add_none]; exact h2) (by rw [add_none]; exact h3)

section
variable {x : Th} {St : Gh → Goroutine → World → Prop} {O : Gh} {w : World} {b : Frame} {n : Nat} {f : Nat → Value} {ds : List Deferred} {K : List Item} {cs : List Frame}
/-- A loop: from every state of the invariant, where all states of smaller measure are done with. -/
theorem t_while (Inv : Nat → (Nat → Value) → Gh → World → Prop) (m : Nat) (h0 : Inv m f O w)
    (hstep : ∀ m f O w, Inv m f O w → (∀ m' f' O' w', m' < m → Inv m' f' O' w' → Tree P x St O' (G (Fr b n f' ds K) cs) w') → Tree P x St O (G (Fr b n f ds K) cs) w) :
    Tree P x St O (G (Fr b n f ds K) cs) w := by
  induction m using Nat.strongRecOn generalizing f O w with
  | _ m ih => exact hstep m f O w h0 fun m' f' O' w' hm h => ih m' hm h
end

/-- Of each two neighbours the first stands before. -/
def ordL : List Ent → Bool
  | a :: b :: l => bef a b && ordL (b :: l)
  | _ => true
theorem ordL_true : ∀ {l : List Ent}, (∀ (i : Nat) (a b : Ent), l[i]? = some a → l[i + 1]? = some b → bef a b = true) → ordL l = true
  | [], _ => rfl
  | [_], _ => rfl
  | a :: b :: l, h => by
    unfold ordL
    rw [h 0 a b rfl rfl, ordL_true fun i a b h1 h2 => h (i + 1) a b (by simpa using h1) (by simpa using h2)]; rfl
theorem ordL_false : ∀ {l : List Ent} {i : Nat} {a b : Ent}, l[i]? = some a → l[i + 1]? = some b → bef a b = false → ordL l = false
  | [], i, _, _, h, _, _ => by simp at h
  | [_], i, _, _, _, h, _ => by simp at h
  | x :: y :: l, 0, a, b, h1, h2, hb => by
    simp at h1 h2; subst h1 h2; unfold ordL; rw [hb]; rfl
  | x :: y :: l, i + 1, a, b, h1, h2, hb => by
    unfold ordL; rw [ordL_false (i := i) (l := y :: l) (by simpa using h1) (by simpa using h2) hb]; simp
end Go.Proofs.Ytdajdembeacefaa.M

/-
  THE INPUT, read: a slice of entries, a slice of slices of entries, as the row's reading gives them; a run's start and end.
-/
import Derived.Test.YtdajdembeacefaaBB
import Derived.Test.YtdajdembeacefaaRows
import Derived.Conc.LeavingOf
import Derived.Carry
import Derived.RowKit
set_option linter.unusedSimpArgs false
set_option linter.unusedVariables false
namespace Go.Proofs.Ytdajdembeacefaa
open Go.ChangeShapes Go.WideShapes Go.ChangeAt Go.RowKit Go.Conc

theorem own : ownKnob Try.prog.godebug = none := by kernel_rfl
theorem laidOut : laidOutB Try.prog = true := by kernel_rfl
theorem cells37 : Try.prog.cellsOf 37 = 4 := by kernel_rfl
theorem cells25 : Try.prog.cellsOf 25 = 1 := by kernel_rfl
theorem cells9 : Try.prog.cellsOf 9 = 1 := by kernel_rfl
theorem cells3 : Try.prog.cellsOf 3 = 1 := by kernel_rfl
theorem cells4 : Try.prog.cellsOf 4 = 1 := by kernel_rfl
namespace M
section
variable {H : Type} {enc : TypeId × Value → H} {w : World} {base : Nat} {sp : Nat → Bool} {held : Bool}

theorem read_string {n : Nat} {cs : List Value} {y : DataW H × List MemPlace} (h : DataW.trod enc Try.prog w base sp held n 9 cs = some y) : ∃ s, cs = [.string s] := by
  cases n with
  | zero => simp [DataW.trod] at h
  | succ n =>
    unfold DataW.trod at h
    rw [show Try.prog.underlying 9 = some .string from rfl] at h
    match cs, h with
    | [.string s], _ => exact ⟨s, rfl⟩
theorem read_int {n : Nat} {cs : List Value} {y : DataW H × List MemPlace} (h : DataW.trod enc Try.prog w base sp held n 3 cs = some y) : ∃ s, cs = [.int .i64 s] := by
  cases n with
  | zero => simp [DataW.trod] at h
  | succ n =>
    unfold DataW.trod at h
    rw [show Try.prog.underlying 3 = some (.int .i64) from rfl] at h
    match cs, h with
    | [.int k s], h =>
      simp only at h
      split at h
      · rename_i hk; rw [hk.1]; exact ⟨s, rfl⟩
      · cases h
theorem read_bool {n : Nat} {cs : List Value} {y : DataW H × List MemPlace} (h : DataW.trod enc Try.prog w base sp held n 4 cs = some y) : ∃ s, cs = [.bool s] := by
  cases n with
  | zero => simp [DataW.trod] at h
  | succ n =>
    unfold DataW.trod at h
    rw [show Try.prog.underlying 4 = some .bool from rfl] at h
    match cs, h with
    | [.bool s], _ => exact ⟨s, rfl⟩
theorem read_entry {n : Nat} {cs : List Value} {y : DataW H × List MemPlace} (h : DataW.trod enc Try.prog w base sp held n 37 cs = some y) : ∃ e : Ent, cs = e.cells.toList := by
  cases n with
  | zero => simp [DataW.trod] at h
  | succ n =>
    unfold DataW.trod at h
    rw [Try.underlying37] at h
    have hlen : cs.length = 4 := by
      refine Classical.byContradiction fun hne => ?_
      match cs, h with
      | cs, h => simp [cells37, hne] at h
    match cs, hlen with
    | [c0, c1, c2, c3], _ =>
      simp only [cells37, cells9, cells3, cells4, List.length_cons, List.length_nil, Nat.reduceAdd, if_true, List.mapM_cons, List.mapM_nil, List.drop_zero, List.take_succ_cons, List.take_zero, List.drop_succ_cons] at h
      have hx : ∃ y0 y1 y2 y3, DataW.trod enc Try.prog w base sp held n 9 [c0] = some y0 ∧ DataW.trod enc Try.prog w base sp held n 3 [c1] = some y1 ∧ DataW.trod enc Try.prog w base sp held n 4 [c2] = some y2 ∧ DataW.trod enc Try.prog w base sp held n 9 [c3] = some y3 := by
        cases h0 : DataW.trod enc Try.prog w base sp held n 9 [c0] with
        | none => simp [h0] at h
        | some y0 =>
          cases h1 : DataW.trod enc Try.prog w base sp held n 3 [c1] with
          | none => simp [h0, h1] at h
          | some y1 =>
            cases h2 : DataW.trod enc Try.prog w base sp held n 4 [c2] with
            | none => simp [h0, h1, h2] at h
            | some y2 =>
              cases h3 : DataW.trod enc Try.prog w base sp held n 9 [c3] with
              | none => simp [h0, h1, h2, h3] at h
              | some y3 => exact ⟨y0, y1, y2, y3, rfl, rfl, rfl, rfl⟩
      obtain ⟨y0, y1, y2, y3, h0, h1, h2, h3⟩ := hx
      obtain ⟨s0, e0⟩ := read_string h0
      obtain ⟨s1, e1⟩ := read_int h1
      obtain ⟨s2, e2⟩ := read_bool h2
      obtain ⟨s3, e3⟩ := read_string h3
      simp only [List.cons.injEq, and_true] at e0 e1 e2 e3
      subst e0 e1 e2 e3
      exact ⟨⟨s0, s1, s2, s3⟩, rfl⟩
theorem choose_list {α : Type} {R : Nat → α → Prop} : ∀ (n : Nat), (∀ i, i < n → ∃ a, R i a) → ∃ l : List α, l.length = n ∧ ∀ (i : Nat) (a : α), l[i]? = some a → R i a
  | 0, _ => ⟨[], rfl, fun i a h => by simp at h⟩
  | n + 1, h => by
    obtain ⟨l, h1, h2⟩ := choose_list n fun i hi => h i (by omega)
    obtain ⟨a, ha⟩ := h n (by omega)
    refine ⟨l ++ [a], by simp [h1], fun i b hb => ?_⟩
    by_cases hi : i < l.length
    · rw [List.getElem?_append_left hi] at hb; exact h2 i b hb
    · rw [List.getElem?_append_right (by omega)] at hb
      have hl := (List.getElem?_eq_some_iff.1 hb).1
      simp at hl
      have : i = n := by omega
      subst this
      rw [h1, Nat.sub_self] at hb; simp at hb; subst hb; exact ha
theorem spot_of {w : World} {a : Addr} {v : Value} (h : w.cell? a = some v) : a.spot = none := by
  unfold World.cell? at h
  split at h
  · split at h
    · cases h
    · rename_i hs; simpa using hs
  · cases h
theorem add_spot (a : Addr) (n : Nat) (h : (a.add n).spot = none) (hn : n = 0) : a.spot = none := by subst hn; exact h
/-- A slice of entries. -/
theorem read_entries {L : Addr → Option Value} (hL : ∀ a v, w.cell? a = some v → L a = some v) {n : Nat} {v : Value} {y : DataW H × List MemPlace} (h : DataW.trod enc Try.prog w base sp held n 25 [v] = some y) : ∃ l : List Ent, SlE L v l := by
  rcases DataW.trod_slice Try.underlying25 h with ⟨h1, _⟩ | ⟨a, len, cap, elems, rest, n', _, h1, _, hb, hl, hm, hlen, hel, _, _⟩
  · simp only [List.cons.injEq, and_true] at h1
    exact ⟨[], .inl ⟨rfl, none, 0, h1⟩⟩
  · simp only [List.cons.injEq, and_true] at h1
    subst h1
    by_cases h0 : len = 0
    · subst h0; exact ⟨[], .inl ⟨rfl, some a, cap, rfl⟩⟩
    · rw [cells37] at hel
      have hex : ∀ i, i < len → ∃ e : Ent, ∀ k, k < 4 → w.cell? ((a.add (i * 4)).add k) = e.cells[k]? := by
        intro i hi
        have h2 := hel i hi
        rw [List.getElem?_eq_getElem (by omega)] at h2
        cases hc : w.cells? base (a.add (i * 4)) 4 with
        | none => rw [hc] at h2; cases h2
        | some cs =>
          rw [hc, Option.bind_some] at h2
          obtain ⟨e, rfl⟩ := read_entry h2
          obtain ⟨_, _, h3⟩ := World.cells?_some hc
          exact ⟨e, fun k hk => by rw [h3 k hk]; simp⟩
      obtain ⟨l, hll, hlr⟩ := choose_list len hex
      have hsp : a.spot = none := by
        obtain ⟨e, he⟩ := hex 0 (by omega)
        have := he 0 (by omega)
        have h5 := spot_of (this.trans rfl)
        simpa [Addr.add] using h5
      obtain ⟨b, o, sp⟩ := a
      simp only at hsp; subst hsp
      refine ⟨l, .inr ⟨b, o, cap, by rw [List.length_map, hll], by rw [List.length_map, hll]; exact hl, fun i q hi => ?_⟩⟩
      rw [List.getElem?_map] at hi
      obtain ⟨e, he, rfl⟩ := Option.map_eq_some_iff.1 hi
      refine ⟨rfl, fun k hk => ?_⟩
      have h6 := hlr i e he k hk
      rw [add_none, add_none] at h6
      have h7 : e.cells[k]? = some (e.cells[k]'(show k < e.cells.size from hk)) := Array.getElem?_eq_getElem _
      rw [h7] at h6 ⊢
      exact hL _ _ h6
/-- A slice of slices of entries. -/
theorem read_lists {L : Addr → Option Value} (hL : ∀ a v, w.cell? a = some v → L a = some v) {n : Nat} {v : Value} {y : DataW H × List MemPlace} (h : DataW.trod enc Try.prog w base sp held n 22 [v] = some y) : ∃ ls : List (List Ent), Sl2 L v ls := by
  rcases DataW.trod_slice Try.underlying22 h with ⟨h1, _⟩ | ⟨a, len, cap, elems, rest, n', _, h1, _, hb, hl, hm, hlen, hel, _, _⟩
  · simp only [List.cons.injEq, and_true] at h1
    exact ⟨[], [], .inl ⟨rfl, none, 0, h1⟩, rfl, fun i u l hu => by simp at hu⟩
  · simp only [List.cons.injEq, and_true] at h1
    subst h1
    by_cases h0 : len = 0
    · subst h0; exact ⟨[], [], .inl ⟨rfl, some a, cap, rfl⟩, rfl, fun i u l hu => by simp at hu⟩
    · rw [cells25] at hel
      have hex : ∀ i, i < len → ∃ p : Value × List Ent, w.cell? (a.add (i * 1)) = some p.1 ∧ SlE L p.1 p.2 := by
        intro i hi
        have h2 := hel i hi
        rw [List.getElem?_eq_getElem (by omega)] at h2
        cases hc : w.cells? base (a.add (i * 1)) 1 with
        | none => rw [hc] at h2; cases h2
        | some cs =>
          rw [hc, Option.bind_some] at h2
          obtain ⟨_, hcl, h3⟩ := World.cells?_some hc
          match cs, hcl with
          | [u], _ =>
            obtain ⟨l, hl⟩ := read_entries hL h2
            exact ⟨(u, l), by simpa [Addr.add] using h3 0 (by omega), hl⟩
      obtain ⟨ps, hll, hlr⟩ := choose_list len hex
      have hsp : a.spot = none := by
        obtain ⟨e, he, _⟩ := hex 0 (by omega)
        have h5 := spot_of he
        simpa [Addr.add] using h5
      obtain ⟨b, o, sp⟩ := a
      simp only at hsp; subst hsp
      refine ⟨ps.map (·.2), ps.map (·.1), .inr ⟨b, o, cap, by rw [List.length_map, List.length_map, hll], by rw [List.length_map, List.length_map, hll]; exact hl, fun i q hi => ?_⟩, by simp, fun i u l hu hl => ?_⟩
      · rw [List.getElem?_map, List.getElem?_map] at hi
        cases hp : ps[i]? with
        | none => rw [hp] at hi; cases hi
        | some p =>
          rw [hp] at hi; simp at hi; subst hi
          refine ⟨rfl, fun k hk => ?_⟩
          obtain rfl : k = 0 := by omega
          have h6 := (hlr i p hp).1
          rw [add_none] at h6
          exact hL _ _ (by simpa using h6)
      · rw [List.getElem?_map] at hu hl
        cases hp : ps[i]? with
        | none => rw [hp] at hu; cases hu
        | some p =>
          rw [hp] at hu hl; simp at hu hl; subst hu hl
          exact (hlr i p hp).2
end

/-! ### the start of a run -/
def O0 : Gh := ⟨fun _ => .mine 0, 0⟩
theorem ld0 {w : World} (a : Addr) (v : Value) (h : w.cell? a = some v) : ldOf x0 O0 w a = some v := ldOf_of (.inl rfl) h
theorem start_run {Post : Value → World → Prop} {g : Goroutine} {W : World} (h : Tree P x0 (Will P Post) O0 g W) :
    ∃ N last o w' t', runNT P (N + 1) (solo g W) #[] = (.ended o w', t') ∧ runN P N (solo g W) = .next last ∧ step P last = .ended o w' ∧ Conc.Good P Post last o w' t' := by
  have hd : ∀ i, Deaf #[] i = 0 := fun i => rfl
  have hti : TI (fun _ => False) 0 1 W.heap.size (fun _ => .mine 0) [] #[] := by
    refine ⟨fun said h => ?_, by simp, by simp, fun y l _ _ i a h => ?_, fun l _ i a h => ?_, by simp, by simp, by simp, by simp, by simp, fun i g h => ?_⟩
    · obtain ⟨i, j, hr⟩ := h
      unfold RaceAt at hr
      simp [Trace.act?] at hr
    · simp [touchAt, Trace.act?] at h
    · simp [touchAt, Trace.act?] at h
    · simp [Trace.g?] at h
  exact will_tree h #[g] none #[] (fun _ => False) 1 (fun _ => .mine 0) (fun _ => 0) ⟨rfl, by omega, fun i a h0 hi => (by
    have : (#[g] : Array Goroutine)[i]? = none := by rw [Array.getElem?_eq_none]; simp; omega
    rw [this] at hi; cases hi), fun i _ => rfl, hti, fun l hl => hl.elim, fun b _ => .inl rfl⟩ rfl rfl
theorem keep_below {W : World} {O' : Gh} {w' : World} (k : Keep O0 W O' w') : Below W.heap.size W w' := ⟨k.os, k.tape, k.output, k.size, fun b hb => (k.own b hb rfl).2⟩
end M
end Go.Proofs.Ytdajdembeacefaa

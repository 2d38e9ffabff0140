/-
  THE CALCULUS, 7: buffers of the thread's own, and what is appended to them.
-/
import Derived.Test.YtdajdembeacefaaR
set_option linter.unusedSimpArgs false
set_option linter.unusedVariables false
namespace Go.Proofs.Ytdajdembeacefaa.M
open Go.Conc

/-- Old blocks but m, and all tags, are as they were. -/
structure Mod (O : Gh) (w : World) (O' : Gh) (w' : World) (m : Nat) : Prop where
  size : w.heap.size ≤ w'.heap.size
  tape : w'.tape = w.tape
  os : w'.os = w.os
  output : w'.output = w.output
  deaf : O'.deaf = O.deaf
  tags : ∀ b, b < w.heap.size → O'.tag b = O.tag b
  block : ∀ b, b < w.heap.size → b ≠ m → w'.heap[b]? = w.heap[b]?
theorem Mod.refl (O : Gh) (w : World) (m : Nat) : Mod O w O w m := ⟨Nat.le_refl _, rfl, rfl, rfl, rfl, fun _ _ => rfl, fun _ _ _ => rfl⟩
theorem Mod.trans {O O1 O2 : Gh} {w w1 w2 : World} {m : Nat} (h : Mod O w O1 w1 m) (k : Mod O1 w1 O2 w2 m) : Mod O w O2 w2 m :=
  ⟨Nat.le_trans h.size k.size, k.tape.trans h.tape, k.os.trans h.os, k.output.trans h.output, k.deaf.trans h.deaf, fun b hb => (k.tags b (Nat.lt_of_lt_of_le hb h.size)).trans (h.tags b hb),
    fun b hb hn => (k.block b (Nat.lt_of_lt_of_le hb h.size) hn).trans (h.block b hb hn)⟩
theorem Mod.setCell (O : Gh) (w : World) (a : Addr) (v : Value) : Mod O w O (w.setCell a v) a.block :=
  ⟨by simp [World.setCell], by simp [World.setCell], by simp [World.setCell], by simp [World.setCell], rfl, fun _ _ => rfl, fun b _ hn => cell_setCell v b hn⟩
theorem Mod.grow (O : Gh) (w : World) (o : Obj) (t : Tag) (m : Nat) : Mod O w (O.with w.heap.size t) (M.grow w o) m :=
  ⟨by simp [M.grow], rfl, rfl, rfl, rfl, fun b hb => Gh.with_ne O _ (by omega), fun b hb _ => by simp only [M.grow]; rw [Array.getElem?_push_lt hb]; simp [hb]⟩
theorem Mod.drawn (O : Gh) (w : World) (m : Nat) : Mod O w O { w with drawn := w.drawn + 1 } m := ⟨Nat.le_refl _, rfl, rfl, rfl, rfl, fun _ _ => rfl, fun _ _ _ => rfl⟩
/-- What is known from before the block was made stays known. -/
theorem Rel.mod {x : Th} {O0 O O' : Gh} {w0 w w' : World} {m : Nat} (r : Rel x O0 w0 O w) (h : Mod O w O' w' m) (hm : w0.heap.size ≤ m) : Rel x O0 w0 O' w' := by
  have up : ∀ {b}, b < w0.heap.size → b < w.heap.size := fun hb => Nat.lt_of_lt_of_le hb r.size
  refine ⟨Nat.le_trans r.size h.size, h.tape.trans r.tape, h.os.trans r.os, h.output.trans r.output, h.deaf.trans r.deaf, fun b hb hs => (h.tags b (up hb)).trans (r.tags b hb hs), fun b hb hS hf => (h.tags b (up hb)).trans (r.fr b hb hS hf),
    fun b hb hs => (h.block b (up hb) (by omega)).trans (r.block b hb hs), fun b hb hS hf => (cell?_congr (h.block b (up hb) (by omega)) 0 none).trans (r.cell0 b hb hS hf), fun h0 b hb hf => (?_ : _ ∧ _), fun b hb hf => (h.tags b (up hb)).trans (r.sy b hb hf), fun b hb hf => (shape_congr (h.block b (up hb) (by omega))).trans (r.shp b hb hf)⟩
  obtain ⟨h1, h2⟩ := r.fresh h0 b hb hf
  · exact ⟨(h.tags b (up hb)).trans h1, (h.block b (up hb) (by omega)).trans h2⟩

/-- The cells of a row of elements, one behind the other. -/
def flat (cs : List (Array Value)) : List Value := (cs.map Array.toList).flatten
theorem flat_append (a b : List (Array Value)) : flat (a ++ b) = flat a ++ flat b := by simp [flat]
theorem flat_length {sz : Nat} {cs : List (Array Value)} (h : ∀ a ∈ cs, a.size = sz) : (flat cs).length = cs.length * sz := by
  induction cs with
  | nil => simp [flat]
  | cons a l ih =>
    have := ih fun a ha => h a (List.mem_cons_of_mem _ ha)
    have h1 := h a (List.mem_cons_self ..)
    simp [flat] at this ⊢
    rw [this, h1, Nat.add_mul]; omega
theorem flat_get {sz : Nat} {cs : List (Array Value)} (h : ∀ a ∈ cs, a.size = sz) {i k : Nat} {a : Array Value} (hi : cs[i]? = some a) (hk : k < sz) : (flat cs)[i * sz + k]? = a[k]? := by
  induction cs generalizing i with
  | nil => simp at hi
  | cons b l ih =>
    have h1 := h b (List.mem_cons_self ..)
    have e : flat (b :: l) = b.toList ++ flat l := by simp [flat]
    rw [e]
    cases i with
    | zero =>
      simp at hi; subst hi
      rw [List.getElem?_append_left (by simp; omega)]; simp
    | succ i =>
      rw [List.getElem?_append_right (by simp [h1, Nat.add_mul]; omega)]
      have e2 : (i + 1) * sz + k - b.toList.length = i * sz + k := by simp [h1, Nat.add_mul]; omega
      rw [e2]
      exact ih (fun a ha => h a (List.mem_cons_of_mem _ ha)) (by simpa using hi)

/-- A buffer: the thread's own row of cells, of which the first are the elements. -/
def Buf (sz : Nat) (x : Th) (O : Gh) (w : World) (m : Nat) (s : Value) (cs : List (Array Value)) : Prop :=
  (∀ a ∈ cs, a.size = sz) ∧
  ((cs = [] ∧ s = .slice none 0 0) ∨
   ∃ cap c t, s = .slice (some ⟨m, 0, none⟩) cs.length cap ∧ O.tag m = .mine x.id ∧ w.heap[m]? = some (.cells c t (0, 0)) ∧ c.size = cap * sz ∧ cs.length ≤ cap ∧ c.toList.take (cs.length * sz) = flat cs)

theorem Buf.sl {sz : Nat} {x : Th} {O : Gh} {w : World} {m : Nat} {s : Value} {cs : List (Array Value)} (h : Buf sz x O w m s cs) : Sl sz (ldOf x O w) s cs := by
  obtain ⟨hs, h⟩ := h
  refine h.imp (fun ⟨h1, h2⟩ => ⟨h1, none, 0, h2⟩) fun ⟨cap, c, t, h1, h2, h3, h4, h5, h6⟩ => ⟨m, 0, cap, h1, h5, fun i a hi => ⟨hs a (List.mem_of_getElem? hi), fun k hk => ?_⟩⟩
  have hil := (List.getElem?_eq_some_iff.1 hi).1
  have ha := hs a (List.mem_of_getElem? hi)
  have h7 := flat_get hs hi hk
  rw [← h6, List.getElem?_take, if_pos (by
    have : (i + 1) * sz ≤ cs.length * sz := Nat.mul_le_mul_right _ (by omega)
    rw [Nat.add_mul] at this; omega)] at h7
  have h8 : a[k]? = some a[k] := Array.getElem?_eq_getElem (by omega)
  rw [h8] at h7 ⊢
  refine ldOf_of (.inl h2) ?_
  unfold World.cell?
  simp only [h3, Nat.zero_add]
  simpa using h7
theorem Buf.keep {sz : Nat} {x : Th} {O O' : Gh} {w w' : World} {m m' : Nat} {s : Value} {cs : List (Array Value)} (h : Buf sz x O w m s cs) (k : Mod O w O' w' m') (hm : m ≠ m') : Buf sz x O' w' m s cs := by
  refine ⟨h.1, h.2.imp id fun ⟨cap, c, t, h1, h2, h3, h4, h5, h6⟩ => ?_⟩
  have hlt := (Array.getElem?_eq_some_iff.1 h3).1
  exact ⟨cap, c, t, h1, (k.tags m hlt).trans h2, (k.block m hlt hm).trans h3, h4, h5, h6⟩
theorem Buf.rely {sz : Nat} {x : Th} {O O' : Gh} {w w' : World} {m : Nat} {s : Value} {cs : List (Array Value)} (h : Buf sz x O w m s cs) (r : Rel x O w O' w') : Buf sz x O' w' m s cs := by
  refine ⟨h.1, h.2.imp id fun ⟨cap, c, t, h1, h2, h3, h4, h5, h6⟩ => ?_⟩
  have hlt := (Array.getElem?_eq_some_iff.1 h3).1
  exact ⟨cap, c, t, h1, (r.tags m hlt (.inl h2)).trans h2, (r.block m hlt (.inl h2)).trans h3, h4, h5, h6⟩
theorem Buf.nil (sz : Nat) (x : Th) (O : Gh) (w : World) (m : Nat) : Buf sz x O w m (.slice none 0 0) [] := ⟨by simp, .inl ⟨rfl, rfl⟩⟩

section
variable {x : Th} {O : Gh} {w : World}

theorem wpS_rd {α β : Type} {K : β → Gh → World → Prop} {s : Sem α} {f : α → Sem β} {a : α} (h : runL P (ldOf x O w) s = some a) (hK : wpS P x K (f a) O w) : wpS P x K (s >>= f) O w :=
  (wpS_bind K s f O w).2 (wpS_runL s a h hK)

/-- Many cells are read. -/
theorem runL_loadCells {L : Addr → Option Value} (b o : Nat) : ∀ (vs : List Value) (i : Nat) (acc : Array Value), (∀ k v, vs[k]? = some v → L ⟨b, o + i + k, none⟩ = some v) →
    runL P L (loadCellsFrom ⟨b, o, none⟩ i vs.length acc) = some (acc ++ vs.toArray)
  | [], i, acc, _ => by simp [loadCellsFrom, runL_pure]
  | v :: vs, i, acc, h => by
    have h0 := h 0 v rfl
    simp only [List.length_cons, loadCellsFrom]
    rw [runL_bind, runL_load, add_none, show o + i = o + i + 0 from rfl, h0, Option.bind_some, runL_loadCells b o vs (i + 1) (acc.push v) fun k u hk => ?_]
    · simp
    · have := h (k + 1) u (by simpa using hk)
      rw [show o + (i + 1) + k = o + i + (k + 1) by omega]; exact this

/-- Many cells are written, in the thread's own block. -/
theorem wpS_storeCells {K : Unit → Gh → World → Prop} (b o : Nat) (t : TypeId) : ∀ (vs : List Value) (i : Nat) (c : Array Value) (w : World), (O.tag b = .mine x.id ∨ (O.tag b = .front ∧ x.id = 0 ∧ 0 < o + i)) → w.heap[b]? = some (.cells c t (0, 0)) → o + i + vs.length ≤ c.size → (∀ v ∈ vs, one? v = true) →
    (∀ w', w'.heap[b]? = some (.cells ((c.toList.take (o + i) ++ vs ++ c.toList.drop (o + i + vs.length)).toArray) t (0, 0)) → Mod O w O w' b → K () O w') → wpS P x K (storeCells ⟨b, o, none⟩ vs i) O w
  | [], i, c, w, ht, hc, hl, h1, hK => by
    refine hK w ?_ (Mod.refl _ _ _)
    simp only [List.length_nil, Nat.add_zero, List.append_nil, List.take_append_drop]
    exact hc
  | v :: vs, i, c, w, ht, hc, hl, h1, hK => by
    simp only [List.length_cons] at hl
    have hlt : o + i < c.size := by omega
    have hbl := (Array.getElem?_eq_some_iff.1 hc).1
    show wpS P x K (store ((⟨b, o, none⟩ : Addr).add i) v >>= fun _ => storeCells ⟨b, o, none⟩ vs (i + 1)) O w
    rw [wpS_bind, add_none]
    refine ⟨?_, ?_, h1 v (List.mem_cons_self ..), ht.imp id (fun h => ⟨h.1, h.2.1, by simp only; omega, rfl⟩), ?_⟩
    · simp [World.cell?, hc, hlt]
    · simp [World.frozen?, hc]
    · have hset : (w.setCell ⟨b, o + i, none⟩ v).heap[b]? = some (.cells (c.setIfInBounds (o + i) v) t (0, 0)) := by
        rw [setCell_eq_setRow w b (o + i) c t (0, 0) v hc, setRow_heap w b _ _ t (0, 0) hc]
      refine wpS_storeCells b o t vs (i + 1) (c.setIfInBounds (o + i) v) _ (ht.imp id fun h => ⟨h.1, h.2.1, by omega⟩) hset (by simp; omega) (fun u hu => h1 u (List.mem_cons_of_mem _ hu)) fun w' hw' hm' => hK w' ?_ ((Mod.setCell O w ⟨b, o + i, none⟩ v).trans hm')
      rw [hw']
      congr 2
      rw [show o + (i + 1) = o + i + 1 by omega]
      have e : (c.setIfInBounds (o + i) v).toList = c.toList.set (o + i) v := by simp
      rw [e]
      simp only [List.length_cons]
      congr 1
      rw [List.take_add_one, List.getElem?_set_self (by simpa using hlt)]
      have e1 : (c.toList.set (o + i) v).take (o + i) = c.toList.take (o + i) := by rw [List.take_set_of_le (by omega)]
      have e2 : (c.toList.set (o + i) v).drop (o + i + 1 + vs.length) = c.toList.drop (o + i + 1 + vs.length) := by rw [List.drop_set_of_lt (by omega)]
      rw [e1, e2]
      simp [List.append_assoc, show o + i + (vs.length + 1) = o + i + 1 + vs.length by omega]

theorem growBy_le (n : Nat) : ∀ (r c : Nat), 256 ≤ c → Builtin.growBy n r c ≤ max c (2 * n)
  | 0, c, _ => by simp [Builtin.growBy]; omega
  | r + 1, c, h => by
    unfold Builtin.growBy
    split
    · omega
    · have := growBy_le n r (c + (c + 768) / 4) (by omega)
      omega
theorem nextslicecap_le (n o : Nat) (h : o < n) : Builtin.nextslicecap n o ≤ 2 * n := by
  unfold Builtin.nextslicecap
  split
  · omega
  · split
    · omega
    · have := growBy_le n 4 o (by omega)
      omega
theorem zeroCells_size (z : Array Value) (n : Nat) : (Builtin.zeroCells z n).size = n * z.size := by simp [Builtin.zeroCells]
theorem wpS_askRoom {K : Unit → Gh → World → Prop} (n : Nat) (h : K () O w) : wpS P x K (askRoom n) O w := by
  unfold askRoom; split
  · exact h
  · exact h

/-- APPEND: to a buffer of the thread's own, what lies known elsewhere. -/
theorem wpS_append {sz t elem by_ : Nat} {info : TypeInfo} {z : Value} (hu : P.underlying t = some (.slice elem)) (hi : P.info? elem = some info) (hsz : info.size = sz) (hby : info.bytes = by_) (hb48 : by_ ≤ 48) (hb0 : by_ ≠ 0) (hpos : 0 < sz)
    (hz : ∀ L, runL P L (zeroValue elem) = some z) (hzs : z.cells.size = sz) {ty : TypeId} {m : Nat} {s v : Value} {cs news : List (Array Value)} (hs : Buf sz x O w m s cs) (hv : Sl sz (ldOf x O w) v news)
    (hn : cs.length + news.length < 1000000) (hnew : ∀ a ∈ news, a.size = sz ∧ ∀ u ∈ a.toList, one? u = true) {K : Value → Gh → World → Prop}
    (hK : ∀ m' s' O' w', Buf sz x O' w' m' s' (cs ++ news) → Mod O w O' w' m → (m' = m ∨ (w.heap.size ≤ m' ∧ m' < w'.heap.size)) → K s' O' w') :
    wpS P x K (Builtin.append_ #[t, t] ty #[s, v]) O w := by
  have hLu : runL P (ldOf x O w) (underlying t) = some (.slice elem) := by rw [runL_underlying]; exact hu
  have hnl : (flat news).length = news.length * sz := flat_length fun a ha => (hnew a ha).1
  have hcl : (flat cs).length = cs.length * sz := flat_length hs.1
  have hone : ∀ u ∈ flat news, one? u = true := by
    intro u hu
    simp only [flat, List.mem_flatten, List.mem_map] at hu
    obtain ⟨l, ⟨a, ha, rfl⟩, hu⟩ := hu
    exact (hnew a ha).2 u hu
  have hall : ∀ a ∈ cs ++ news, a.size = sz := fun a ha => (List.mem_append.1 ha).elim (hs.1 a) fun h => (hnew a h).1
  -- what is appended, read
  have rdNew : ∀ {O1 : Gh} {w1 : World}, Sl sz (ldOf x O1 w1) v news → runL P (ldOf x O1 w1) (Builtin.firstCells sz news.length v) = some (flat news).toArray := by
    intro O1 w1 h
    rcases h with ⟨rfl, a, c, rfl⟩ | ⟨b, o, c, rfl, _, h⟩
    · cases a <;> simp [Builtin.firstCells, flat, loadCells, loadCellsFrom, runL_pure]
    · show runL P _ (loadCellsFrom ⟨b, o, none⟩ 0 (news.length * sz) #[]) = _
      rw [← hnl, runL_loadCells b o (flat news) 0 #[] fun k u hk => ?_]
      · simp
      · have hkl := (List.getElem?_eq_some_iff.1 hk).1
        rw [hnl] at hkl
        have hd := Nat.div_add_mod k sz
        have hmod := Nat.mod_lt k hpos
        have hq : k / sz < news.length := Nat.div_lt_of_lt_mul (by rw [Nat.mul_comm]; exact hkl)
        have hg := List.getElem?_eq_getElem hq
        obtain ⟨_, h2⟩ := h (k / sz) _ hg
        have h3 := h2 (k % sz) hmod
        have h4 := flat_get (fun a ha => (hnew a ha).1) hg hmod
        have e : k / sz * sz + k % sz = k := by rw [Nat.mul_comm]; exact hd
        rw [Nat.add_assoc, e] at h3
        rw [e, hk] at h4
        rw [Nat.add_zero, h3, ← h4]
  have hlenv : runL P (ldOf x O w) (Builtin.lenOf v) = some news.length := by
    rcases hv with ⟨rfl, a, c, rfl⟩ | ⟨b, o, c, rfl, _, _⟩ <;> rfl
  have hslice : ∃ base cap, s = .slice base cs.length cap := by
    rcases hs.2 with ⟨rfl, rfl⟩ | ⟨cap, c, t, rfl, _⟩
    · exact ⟨none, 0, rfl⟩
    · exact ⟨_, cap, rfl⟩
  obtain ⟨base, cap, rfl⟩ := hslice
  have hsize : runL P (ldOf x O w) (sizeOf elem) = some sz := by rw [runL_sizeOf, hi]; simp [hsz]
  have hinfo : ∀ {L}, runL P L (typeInfo elem) = some info := by intro L; rw [runL_typeInfo]; exact hi
  unfold Builtin.append_
  simp only [List.getElem?_toArray, List.getElem?_cons_zero, List.getElem?_cons_succ]
  refine wpS_rd hLu ?_
  try simp only
  refine wpS_rd hsize ?_
  try simp only
  refine wpS_rd hLu ?_
  refine wpS_rd (runL_pure P _ _) ?_
  simp only [Bool.false_eq_true, if_false, Bool.not_false, if_true]
  refine wpS_rd hlenv ?_
  try simp only
  by_cases hroom : cs.length + news.length ≤ cap
  · rw [if_pos hroom]
    refine wpS_rd (rdNew hv) ?_
    rcases hs.2 with ⟨rfl, e⟩ | ⟨cap', c, tt, e, ht, hc, hcs, hle, htake⟩
    · cases e
      simp only [List.length_nil, Nat.zero_add] at hroom ⊢
      have hn0 : news = [] := List.length_eq_zero_iff.1 (by omega)
      subst hn0
      exact hK m _ O w (by simpa using hs) (Mod.refl _ _ _) (.inl rfl)
    · cases e
      try simp only
      rw [wpS_bind, add_none]
      refine wpS_storeCells m (0 + cs.length * sz) tt _ 0 c w (.inl ht) hc (by
        simp only [List.toList_toArray, hnl, hcs]
        have : (cs.length + news.length) * sz ≤ cap * sz := Nat.mul_le_mul_right _ hroom
        rw [Nat.add_mul] at this; omega) hone fun w' hw' hm' => ?_
      refine hK m _ O w' ⟨hall, .inr ⟨cap, _, tt, by simp, ht, hw', ?_, by simpa using hroom, ?_⟩⟩ hm' (.inl rfl)
      · have : (cs.length + news.length) * sz ≤ cap * sz := Nat.mul_le_mul_right _ hroom
        rw [Nat.add_mul] at this
        simp only [List.size_toArray, List.length_append, List.length_take, List.length_drop, Array.length_toList, List.toList_toArray, hnl, hcs]; omega
      · simp only [Nat.zero_add, Nat.add_zero, List.toList_toArray, List.length_append, flat_append]
        rw [htake, List.append_assoc, List.take_append, List.take_of_length_le (by rw [hcl, Nat.add_mul]; omega)]
        congr 1
        rw [hcl, Nat.add_mul, Nat.add_sub_cancel_left, List.take_append, List.take_of_length_le (by omega), hnl]
        simp
  · rw [if_neg hroom]
    have hc48 : ¬ (Builtin.nextslicecap (cs.length + news.length) cap * info.bytes > 2 ^ 48) := by
      have h1 := nextslicecap_le (cs.length + news.length) cap (by omega)
      have h2 : Builtin.nextslicecap (cs.length + news.length) cap * info.bytes ≤ 2000000 * 48 := Nat.mul_le_mul (by omega) (by omega)
      omega
    refine wpS_rd hinfo ?_
    simp only [false_or]
    rw [if_neg (by rw [hby]; exact fun h => hb0 h.2)]
    refine wpS_rd hinfo ?_
    try simp only
    rw [if_neg hc48]
    rw [wpS_bind]
    refine ⟨fun hf => (by cases hf), fun _ tp => ?_⟩
    simp only [wpS]
    generalize hcut : Question.cut (.appendCap (cs.length + news.length) cap elem) tp = nc
    have hnc : cs.length + news.length ≤ nc := by
      rw [← hcut]; simp only [Question.cut]; omega
    have hs1 := hs.keep (Mod.drawn O w (m + 1)) (by omega)
    have hv1 : Sl sz (ldOf x O { w with drawn := w.drawn + 1 }) v news := hv.rely ⟨Nat.le_refl _, rfl, rfl, rfl, rfl, fun _ _ _ => rfl, fun _ _ _ h => h, fun _ _ _ => rfl, fun _ _ _ _ => rfl, fun _ _ _ h => ⟨h, rfl⟩, fun _ _ h => h, fun _ _ _ => rfl⟩
    refine wpS_rd hinfo ?_
    try simp only
    rw [wpS_bind]
    refine wpS_askRoom _ ?_
    have hold : runL P (ldOf x O { w with drawn := w.drawn + 1 }) (Builtin.firstCells sz cs.length (.slice base cs.length cap)) = some (flat cs).toArray := by
      rcases hs1.2 with ⟨rfl, e⟩ | ⟨cap', c, tt, e, ht, hc, hcs, hle, htake⟩
      · cases e; rfl
      · cases e
        show runL P _ (loadCellsFrom ⟨m, 0, none⟩ 0 (cs.length * sz) #[]) = _
        rw [← hcl, runL_loadCells m 0 (flat cs) 0 #[] fun k u hk => ?_]
        · simp
        · have hkl := (List.getElem?_eq_some_iff.1 hk).1
          refine ldOf_of (.inl ht) ?_
          unfold World.cell?
          rw [← htake, List.getElem?_take] at hk
          split at hk
          · simp only [hc, Nat.zero_add]; simpa using hk
          · cases hk
    refine wpS_rd hold ?_
    refine wpS_rd (rdNew hv1) ?_
    refine wpS_rd (hz _) ?_
    try simp only
    rw [wpS_bind]
    refine hK w.heap.size _ _ _ ⟨hall, .inr ⟨nc, _, elem, ?_, Gh.with_same _ _ _, Array.getElem?_push_size, ?_, by simpa using hnc, ?_⟩⟩ ((Mod.drawn O w m).trans (Mod.grow O { w with drawn := w.drawn + 1 } _ _ m)) (.inr ⟨Nat.le_refl _, by simp [M.grow]⟩)
    · simp
    · have : (cs.length + news.length) * sz ≤ nc * sz := Nat.mul_le_mul_right _ hnc
      simp only [Array.size_append, List.size_toArray, hcl, hnl, zeroCells_size, hzs, Nat.sub_mul]
      rw [Nat.add_mul] at this ⊢; omega
    · simp only [Array.toList_append, List.length_append, flat_append, Nat.add_mul]
      rw [List.append_assoc, List.take_append, List.take_of_length_le (by rw [hcl]; omega)]
      congr 1
      rw [hcl, Nat.add_sub_cancel_left, List.take_append, List.take_of_length_le (by omega), hnl]
      simp
end
end Go.Proofs.Ytdajdembeacefaa.M

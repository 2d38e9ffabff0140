/-
  THE CALCULUS, 8: slicing, min, stores, new variables, new rows, append as operations.
-/
import Derived.Test.YtdajdembeacefaaV
import Derived.Test.YtdajdembeacefaaT
set_option linter.unusedSimpArgs false
set_option linter.unusedVariables false
namespace Go.Proofs.Ytdajdembeacefaa.M
open Go.Conc

section
variable {L : Addr → Option Value} {ρ : Operand → Value} {d : Option Nat} {t : TypeId} {p : String} {e : Array Edge} {g : Option (Nat × Bool)}

/-- s[:h] -/
def hiL : Value → Value → Option Next
  | .slice a _ cap, .int _ h => if 0 ≤ h ∧ h ≤ (cap : Int) then some (.value (.slice a h.toNat cap)) else none
  | _, _ => none
theorem hiL_some (a : Option Addr) (n cap h : Nat) (k : IntKind) (hh : h ≤ cap) : hiL (.slice a n cap) (.int k (h : Int)) = some (.value (.slice a h cap)) := by
  simp only [hiL]; rw [if_pos ⟨by omega, by omega⟩]; rfl
theorem runL_sliceBound (v : Value) (k : IntKind) (h : Nat) (n : Nat) (c : BoundsCode) (hv : v = .int k (h : Int)) (hle : h ≤ n) : runL P L (Instr.sliceBound v n c) = some h := by
  subst hv
  unfold Instr.sliceBound
  simp only [asIntOf, runL_bind, runL_pure, Option.bind_some]
  have h1 : ¬ ((h : Int) < 0 ∨ (n : Int) < (h : Int)) := by omega
  have h2 : ¬ ((h : Int) < 0 ∨ (h : Int) > (n : Int)) := by omega
  simp [h1, h2, runL_pure, runL, hle]
theorem x_sliceHi {s el sz : Nat} (hs : P.underlying s = some (.slice el)) (hz : (P.info? el).map (·.size) = some sz) (x y : Operand) {a : Option Addr} {n cap h : Nat} {k : IntKind} (hx : ρ x = .slice a n cap) (hy : ρ y = .int k (h : Int)) (hh : h ≤ cap) :
    runL P L (execOp ρ ⟨d, .slice s x none (some y) none, t, p, e, g⟩) = some (.value (.slice a h cap)) := by
  simp only [execOp, Instr.sliceAt, Option.map_none, Option.map_some, hx, hy]
  rw [runL_bind, runL_bind, runL_underlying, hs]
  simp only [Option.bind_some, Instr.slice]
  rw [runL_bind, runL_underlying, hs]
  simp only [Option.bind_some, Instr.sliceBounds]
  simp only [runL_bind, runL_pure, Option.bind_some, runL_sliceBound _ k h cap _ rfl hh, if_true]
  rw [runL_sizeOf, hz]
  simp only [Option.bind_some, Nat.zero_mul, Nat.sub_zero]
  have : (Option.map (fun x : Addr => x.add 0) a) = a := by cases a <;> simp [Addr.add]
  rw [this]; split <;> rfl
theorem x_sliceLo {s el sz : Nat} (hs : P.underlying s = some (.slice el)) (hz : (P.info? el).map (·.size) = some sz) (x y : Operand) {a : Option Addr} {n cap l : Nat} {k : IntKind} (hx : ρ x = .slice a n cap) (hy : ρ y = .int k (l : Int)) (hh : l ≤ n) :
    runL P L (execOp ρ ⟨d, .slice s x (some y) none none, t, p, e, g⟩) = some (.value (.slice (if cap = l then a else a.map (·.add (l * sz))) (n - l) (cap - l))) := by
  simp only [execOp, Instr.sliceAt, Option.map_none, Option.map_some, hx, hy]
  rw [runL_bind, runL_bind, runL_underlying, hs]
  simp only [Option.bind_some, Instr.slice]
  rw [runL_bind, runL_underlying, hs]
  simp only [Option.bind_some, Instr.sliceBounds]
  simp only [runL_bind, runL_pure, Option.bind_some, runL_sliceBound _ k l n _ rfl hh, if_true]
  rw [runL_sizeOf, hz]
  rfl
theorem Sl.take {sz : Nat} {v : Value} {cs : List (Array Value)} (h : Sl sz L v cs) (n : Nat) (hn : n ≤ cs.length) : ∃ a m c, v = .slice a m c ∧ n ≤ c ∧ Sl sz L (.slice a n c) (cs.take n) := by
  rcases h with ⟨rfl, a0, c0, rfl⟩ | ⟨b, o, c, rfl, hc, h⟩
  · have : n = 0 := by simpa using hn
    subst this
    exact ⟨_, _, _, rfl, Nat.zero_le _, .inl ⟨rfl, _, _, rfl⟩⟩
  · refine ⟨_, _, _, rfl, by omega, .inr ⟨b, o, c, by rw [List.length_take]; congr 1; omega, by rw [List.length_take]; omega, fun i a hi => h i a ?_⟩⟩
    rw [List.getElem?_take] at hi
    split at hi
    · exact hi
    · cases hi
theorem Sl.drop {sz : Nat} {v : Value} {cs : List (Array Value)} (h : Sl sz L v cs) (n : Nat) (hn : n ≤ cs.length) : ∃ a m c, v = .slice a m c ∧ n ≤ m ∧ Sl sz L (.slice (if c = n then a else a.map (·.add (n * sz))) (m - n) (c - n)) (cs.drop n) := by
  rcases h with ⟨rfl, a0, c0, rfl⟩ | ⟨b, o, c, rfl, hc, h⟩
  · have : n = 0 := by simpa using hn
    subst this
    exact ⟨_, _, _, rfl, Nat.zero_le _, .inl ⟨rfl, _, _, rfl⟩⟩
  · refine ⟨_, _, _, rfl, hn, .inr ?_⟩
    by_cases hcn : c = n
    · refine ⟨b, o, c - n, by rw [List.length_drop, if_pos hcn], by rw [List.length_drop]; omega, fun i a hi => ?_⟩
      have : cs.length = n := by omega
      rw [List.getElem?_drop, List.getElem?_eq_none (by omega)] at hi
      cases hi
    · refine ⟨b, o + n * sz, c - n, by rw [List.length_drop, if_neg hcn, Option.map_some, add_none], by rw [List.length_drop]; omega, fun i a hi => ?_⟩
      rw [List.getElem?_drop] at hi
      obtain ⟨h1, h2⟩ := h (n + i) a hi
      refine ⟨h1, fun k hk => ?_⟩
      have := h2 k hk
      rw [Nat.add_mul, ← Nat.add_assoc] at this
      rw [← this]

def minL : Value → Value → Option Next
  | .int k a, .int _ b => some (.value (.int k (if b < a then b else a)))
  | _, _ => none
theorem x_min33 (x y : Operand) {a b : Int} {k : IntKind} (hx : ρ x = .int k a) (hy : ρ y = .int k b) :
    runL P L (execOp ρ ⟨d, .call { callee := .builtin .min, args := #[x, y], argTypes := #[3, 3] }, t, p, e, g⟩) = some (.value (.int k (if b < a then b else a))) := by
  simp only [execOp, resolve, runL_bind, runL_pure, Option.bind_some, invoke, builtin, List.map_toArray, List.map_cons, List.map_nil, hx, hy, Builtin.min_, List.foldlM, Builtin.min2]
theorem x_max33 (x y : Operand) {a b : Int} {k : IntKind} (hx : ρ x = .int k a) (hy : ρ y = .int k b) :
    runL P L (execOp ρ ⟨d, .call { callee := .builtin .max, args := #[x, y], argTypes := #[3, 3] }, t, p, e, g⟩) = some (.value (.int k (if a < b then b else a))) := by
  simp only [execOp, resolve, runL_bind, runL_pure, Option.bind_some, invoke, builtin, List.map_toArray, List.map_cons, List.map_nil, hx, hy, Builtin.max_, List.foldlM, Builtin.max2]
end

section
variable {x : Th} {St : Gh → Goroutine → World → Prop} {O : Gh} {w : World} {b : Frame} {n : Nat} {f : Nat → Value} {ds : List Deferred} {k : List Item} {cs : List Frame} {all os : List Oper} {i : Nat} {d : Nat} {t : TypeId} {p : String} {e : Array Edge}

/-- An operation that only reads, its value known. -/
theorem t_val {op : Op} {v : Value} (hk : b.kind ≠ .early) (hv : runL P (ldOf x O w) (execOp (ev n f) ⟨some d, op, t, p, e, none⟩) = some (.value v)) (h : InReg P x St O w b n (upd f d v) ds all k cs (i + 1) os) :
    InReg P x St O w b n f ds all k cs i (⟨some d, op, t, p, e, none⟩ :: os) :=
  t_rd hk fun K hK => by rw [hv]; exact hK _ h

/-- APPEND as an operation. -/
theorem t_append {sz s elem by_ : Nat} {info : TypeInfo} {z : Value} (hu : P.underlying s = some (.slice elem)) (hi : P.info? elem = some info) (hsz : info.size = sz) (hby : info.bytes = by_) (hb48 : by_ ≤ 48) (hb0 : by_ ≠ 0) (hpos : 0 < sz)
    (hz : ∀ L, runL P L (zeroValue elem) = some z) (hzs : z.cells.size = sz) {a c : Operand} (hk : b.kind ≠ .early) {m : Nat} {va vc : Value} (ha : ev n f a = va) (hc : ev n f c = vc) {l news : List (Array Value)}
    (hs : Buf sz x O w m va l) (hv : Sl sz (ldOf x O w) vc news) (hn : l.length + news.length < 1000000) (hnew : ∀ a ∈ news, a.size = sz ∧ ∀ u ∈ a.toList, one? u = true)
    (h : ∀ O1 w1 m' s' O' w', Rel x O w O1 w1 → Mod O1 w1 O' w' m → Buf sz x O' w' m' s' (l ++ news) → (m' = m ∨ (w1.heap.size ≤ m' ∧ m' < w'.heap.size)) → InReg P x St O' w' b n (upd f d s') ds all k cs (i + 1) os) :
    InReg P x St O w b n f ds all k cs i (⟨some d, .call { callee := .builtin .append, args := #[a, c], argTypes := #[s, s] }, t, p, e, none⟩ :: os) := by
  subst ha hc
  refine t_wp hk rfl fun O1 w1 r => ?_
  simp only [execOp, resolve]
  rw [wpS_bind]
  refine wpS_runL _ _ (runL_pure P _ _) ?_
  simp only [invoke, builtin, List.map_toArray, List.map_cons, List.map_nil]
  rw [wpS_bind]
  exact wpS_append hu hi hsz hby hb48 hb0 hpos hz hzs (hs.rely r) (hv.rely r) hn hnew fun m' s' O' w' hb hm hmm => h O1 w1 m' s' O' w' r hm hb hmm

/-! ### new rows and variables -/
theorem fold_set (off : Nat) : ∀ (l : List Value) (k : Nat) (cells : Array Value), off + k + l.length ≤ cells.size →
    ((l.zipIdx k).foldl (fun cs (q : Value × Nat) => cs.setIfInBounds (off + q.2) q.1) cells).toList = cells.toList.take (off + k) ++ l ++ cells.toList.drop (off + k + l.length)
  | [], k, cells, _ => by simp
  | v :: l, k, cells, h => by
    simp only [List.length_cons] at h
    rw [List.zipIdx_cons, List.foldl_cons, fold_set off l (k + 1) _ (by simp; omega)]
    have e : (cells.setIfInBounds (off + k) v).toList = cells.toList.set (off + k) v := by simp
    rw [e, show off + (k + 1) = off + k + 1 by omega, List.take_add_one, List.getElem?_set_self (by simp; omega)]
    rw [List.take_set_of_le (by omega), List.drop_set_of_lt (by omega)]
    simp [List.append_assoc, show off + k + (l.length + 1) = off + k + 1 + l.length by omega]
theorem fill_one {place : Nat → Option (Nat × Nat)} {cells : Array Value} {i off sz : Nat} {v : Value} {rest : List (Nat × Value)} (hp : place i = some (off, sz)) (hv : v.cells.size = sz) (hsz : off + sz ≤ cells.size) :
    Instr.fill place cells ((i, v) :: rest) = Instr.fill place (cells.toList.take off ++ v.cells.toList ++ cells.toList.drop (off + sz)).toArray rest := by
  rw [Instr.fill, hp]
  simp only
  rw [if_neg (by simp [hv]; omega)]
  congr 1
  rw [← Array.foldl_toList]
  have := fold_set off v.cells.toList 0 cells (by simp [hv]; omega)
  simp only [Nat.add_zero, Array.length_toList, hv] at this
  rw [← this]
  simp

theorem wpS_buildSlice {s elem sz len : Nat} {z : Value} {parts : Array (Nat × Value)} {cells : Array Value} {K : Value → Gh → World → Prop} (hu : P.underlying s = some (.slice elem)) (hz : (P.info? elem).map (·.size) = some sz) (hlen : len * sz < 1000)
    (hzero : ∀ L, runL P L (zeroValue elem) = some z) (hf : ∀ c0 : Array Value, c0.size = len * sz → Instr.fill (fun i => some (i * sz, sz)) c0 parts.toList = some cells)
    (hK : K (.slice (some ⟨w.heap.size, 0, none⟩) len len) (O.with w.heap.size (.mine x.id)) (grow w (.cells cells elem))) : wpS P x K (Instr.buildSlice s len parts) O w := by
  unfold Instr.buildSlice
  refine wpS_rd (by rw [runL_underlying]; exact hu) ?_
  try simp only
  refine wpS_rd (by rw [runL_sizeOf]; exact hz) ?_
  try simp only
  rw [if_neg (by omega)]
  by_cases h0 : len * sz = 0
  · rw [if_pos h0]
    refine wpS_rd (runL_pure P _ _) ?_
    rw [hf _ (by simp)]
    try simp only
    rw [wpS_bind]
    exact hK
  · rw [if_neg h0]
    rw [wpS_bind]
    refine wpS_runL _ _ (hzero _) ?_
    refine wpS_rd (runL_pure P _ _) ?_
    rw [hf _ (by simp)]
    try simp only
    rw [wpS_bind]
    exact hK
theorem t_buildSlice {s elem sz len : Nat} {z : Value} {parts : Array (Nat × Operand)} {cells : Array Value} (hu : P.underlying s = some (.slice elem)) (hz : (P.info? elem).map (·.size) = some sz) (hlen : len * sz < 1000)
    (hzero : ∀ L, runL P L (zeroValue elem) = some z) (hk : b.kind ≠ .early) {pv : Array (Nat × Value)} (hp : (parts.map fun (i, y) => (i, ev n f y)) = pv) (hf : ∀ c0 : Array Value, c0.size = len * sz → Instr.fill (fun i => some (i * sz, sz)) c0 pv.toList = some cells)
    (h : ∀ m O1 w1, New x O w O1 w1 m (.cells cells elem) → InReg P x St O1 w1 b n (upd f d (.slice (some ⟨m, 0, none⟩) len len)) ds all k cs (i + 1) os) :
    InReg P x St O w b n f ds all k cs i (⟨some d, .buildSlice s len parts, t, p, e, none⟩ :: os) := by
  refine t_wp hk rfl fun O1 w1 r => ?_
  simp only [execOp, hp]
  rw [wpS_bind]
  exact wpS_buildSlice hu hz hlen hzero hf (h w1.heap.size _ _ ⟨r.trans (Rel.grow w1 _), r.size, Gh.with_same _ _ _, Array.getElem?_push_size⟩)
end
end Go.Proofs.Ytdajdembeacefaa.M

/-
  FIRST, its second loop, what it needs: the turning of the tags at a go statement.
-/
import Derived.Test.YtdajdembeacefaaAP
set_option linter.unusedSimpArgs false
set_option linter.unusedVariables false
namespace Go.Proofs.Ytdajdembeacefaa.M
open Go.Conc
open Go.ConcR (KK wgBlock WgAt stA smA rd wr mk)

section
variable {main : Bool} {w : World} {b : Frame} {n : Nat} {f : Nat → Value} {ds : List Deferred} {k : List Item} {cs : List Frame} {ops : Array Oper} {rest : List Nat} {i : Nat} {t : TypeId} {p : String} {e : Array Edge} {ats : Array TypeId}
theorem st_go {y : Operand} {fn : FuncId} {caps : Array Value} (ho : ops[i]? = some ⟨none, .go { callee := .value y, args := #[], argTypes := ats }, t, p, e, none⟩) (hk : b.kind ≠ .early) (hy : ev n f y = .func (.func fn) #[] caps) :
    stepG P main (G (Fr b n f ds (.inRegion ops (i :: rest) :: k)) cs) w = .spawn (G (Fr b n f ds (.inRegion ops rest :: k)) cs) (born P { target := .fn (.func fn) caps, args := #[] }) w #[] := by
  have hr : (execOp (Act.mk (mkT n f) ds).eval ⟨none, .go { callee := .value y, args := #[], argTypes := ats }, t, p, e, none⟩).run P w = .ok (.spawn { target := .fn (.func fn) caps, args := #[] }) w := by
    rw [eval_mkT]
    simp [execOp, resolve, hy, Deferred.ofValue]
  have he : (execOp (Act.mk (mkT n f) ds).eval ⟨none, .go { callee := .value y, args := #[], argTypes := ats }, t, p, e, none⟩).events P w #[] = #[] := by
    rw [eval_mkT]
    simp [execOp, resolve, hy, Deferred.ofValue]
  have := stepG_spawn (P := P) (main := main) (b := b) (a := ⟨mkT n f, ds⟩) (k := k) (cs := cs) (w := w) (rest := rest) ho rfl hk hr rfl
  rw [put_mkT, listed_none he] at this
  exact this
end
theorem x_build66 {L : Addr → Option Value} {ρ : Operand → Value} {d : Option Nat} {t : TypeId} {p : String} {e : Array Edge} {g : Option (Nat × Bool)} (y : Operand) {c : Nat} (hy : ρ y = .chan (some c)) :
    runL P L (execOp ρ ⟨d, .build 66 #[(0, y)], t, p, e, g⟩) = some (.value (.agg (Fro.cells ⟨0, c, ⟨⟨#[]⟩, 0, false, ⟨#[]⟩⟩, false⟩))) := by
  simp only [execOp, List.map_toArray, List.map_cons, List.map_nil, hy, Instr.build]
  have hz : runL P L (zeroValue 66) = some (.agg #[.chan none, .string ⟨#[]⟩, .int .i64 0, .bool false, .string ⟨#[]⟩, .bool false]) := rfl
  simp only [runL_bind, hz, Option.bind_some, runL_underlying, Try.underlying66]
  have h64 : runL P L (sizeOf 64) = some 1 := by rw [runL_sizeOf]; rfl
  have h37 : runL P L (sizeOf 37) = some 4 := by rw [runL_sizeOf]; rfl
  have h4 : runL P L (sizeOf 4) = some 1 := by rw [runL_sizeOf]; rfl
  simp [runL_bind, runL_map, runL_pure, h64, h37, h4, Instr.fill, Value.cells]
  rfl

/-- The tags behind a go statement. -/
def retag (ch frb mf S : Nat) (O : Gh) : Gh := { O with tag := fun b => if b = ch then .sync else if b = frb then .front else match O.tag b with
  | .mine 0 => if S ≤ b ∧ b ≠ mf then .const else .mine 0
  | t => t }
section
variable {ch frb mf S : Nat} {O : Gh}
theorem retag_ch : (retag ch frb mf S O).tag ch = .sync := by simp [retag]
theorem retag_frb (h : frb ≠ ch) : (retag ch frb mf S O).tag frb = .front := by simp [retag, h]
theorem retag_keep {b : Nat} {t : Tag} (h1 : b ≠ ch) (h2 : b ≠ frb) (h : O.tag b = t) (ht : t ≠ .mine 0) : (retag ch frb mf S O).tag b = t := by
  simp only [retag, h1, h2, if_false, h]
theorem retag_const {b : Nat} (h1 : b ≠ ch) (h2 : b ≠ frb) (h : O.tag b = .mine 0) (hS : S ≤ b) (hm : b ≠ mf) : (retag ch frb mf S O).tag b = .const := by
  simp [retag, h1, h2, h, hS, hm]
theorem retag_mf (h1 : mf ≠ ch) (h2 : mf ≠ frb) (h : O.tag mf = .mine 0) : (retag ch frb mf S O).tag mf = .mine 0 := by
  simp [retag, h1, h2, h]
theorem retag_ok (hc : O.tag ch = .fresh) (hf : O.tag frb = .mine 0) (hS : S ≤ frb) : Retag S O (retag ch frb mf S O) := by
  refine ⟨rfl, fun b => ?_⟩
  by_cases h1 : b = ch
  · subst h1; exact .inr (.inr ⟨hc, retag_ch⟩)
  · by_cases h2 : b = frb
    · subst h2; exact .inr (.inl ⟨hf, .inr (retag_frb h1), hS⟩)
    · by_cases h3 : O.tag b = .mine 0
      · by_cases h4 : S ≤ b ∧ b ≠ mf
        · exact .inr (.inl ⟨h3, .inl (retag_const h1 h2 h3 h4.1 h4.2), h4.1⟩)
        · left; simp [retag, h1, h2, h3, h4]
      · exact .inl (retag_keep h1 h2 rfl h3)
end

/-- The loop's invariant. -/
structure I2 (ty : TypeId) (Wg e eb S : Nat) (Oc : Gh) (wc : World) (mf : Nat) (sf : Value) (O : Gh) (w : World) (fro : List Fro) (qs : List (List Ent)) (sn : List Snd) : Prop where
  base : I3 ty Wg e eb S Oc wc mf sf O w fro qs sn
  snl : ∀ p ∈ sn, p.1 < w.heap.size
  ebS : O.tag eb = .const ∨ (O.tag eb = .mine 0 ∧ S ≤ eb)
  hS : S ≤ w.heap.size
  fr0 : fro = [] → sf = .slice none 0 0
  frm : fro ≠ [] → eb ≠ mf ∧ wc.heap.size ≤ mf ∧ mf < w.heap.size
section
variable {ty : TypeId} {Wg e eb S : Nat} {Oc O O1 : Gh} {wc w w1 : World} {mf : Nat} {sf : Value} {fro : List Fro} {qs : List (List Ent)} {sn : List Snd}
theorem I2.rel (h : I2 ty Wg e eb S Oc wc mf sf O w fro qs sn) (r : Rel x0 O w O1 w1) : I2 ty Wg e eb S Oc wc mf sf O1 w1 fro qs sn := by
  have hebl := (Array.getElem?_eq_some_iff.1 h.base.ebC).1
  have hs : Sees x0 O eb := h.base.ebT.elim .inl fun h => .inr (.inl ⟨h, .inl rfl⟩)
  exact ⟨h.base.rel r, fun p hp => Nat.lt_of_lt_of_le (h.snl p hp) r.size, by rw [r.tags _ hebl hs]; exact h.ebS, Nat.le_trans h.hS r.size, h.fr0, fun hn => ⟨(h.frm hn).1, (h.frm hn).2.1, Nat.lt_of_lt_of_le (h.frm hn).2.2 r.size⟩⟩
/-- The block of the fronts' buffer, or none at all. -/
theorem I2.buffer (h : I2 ty Wg e eb S Oc wc mf sf O w fro qs sn) : ∃ mb, I2 ty Wg e eb S Oc wc mb sf O w fro qs sn ∧ eb ≠ mb ∧ wc.heap.size ≤ mb ∧ ((fro = [] ∧ mb = w.heap.size) ∨ (fro ≠ [] ∧ mb = mf ∧ O.tag mb = .mine 0 ∧ mb < w.heap.size)) := by
  by_cases hf : fro = []
  · have hebl := (Array.getElem?_eq_some_iff.1 h.base.ebC).1
    refine ⟨w.heap.size, ⟨⟨h.base.hwg, h.base.shp, h.base.het, h.base.hel, h.base.held, h.base.ebT, h.base.ebC, h.base.fros, h.base.fb, h.base.mat, ?_⟩, h.snl, h.ebS, h.hS, h.fr0, fun hn => absurd hf hn⟩, by omega, h.base.held.size, .inl ⟨hf, rfl⟩⟩
    rw [h.fr0 hf, hf]; exact Buf.nil _ _ _ _ _
  · obtain ⟨h1, h2, h3⟩ := h.frm hf
    refine ⟨mf, h, h1, h2, .inr ⟨hf, rfl, ?_, h3⟩⟩
    rcases h.base.bf.2 with ⟨h4, _⟩ | ⟨_, _, _, _, h4, _⟩
    · simp at h4; exact absurd h4 hf
    · exact h4
/-- Behind the go statement. -/
theorem I2.retag (h : I2 ty Wg e eb S Oc wc mf sf O w fro qs sn) {ch frb : Nat} (hc : O.tag ch = .fresh) (hf : O.tag frb = .mine 0) (hcf : frb ≠ ch) (hcw : wc.heap.size ≤ ch) (hfw : wc.heap.size ≤ frb) (hem : eb ≠ mf) (hmw : wc.heap.size ≤ mf)
    (hmb : (fro = [] ∧ mf ≠ ch ∧ mf ≠ frb) ∨ (fro ≠ [] ∧ O.tag mf = .mine 0)) (hef : eb ≠ frb) (hmf : mf ≠ frb) (hnf : ∀ q ∈ fro, q.b ≠ frb) :
    I2 ty Wg e eb w.heap.size Oc wc mf sf (M.retag ch frb mf S O) w fro qs sn ∧ (M.retag ch frb mf S O).tag eb = .const := by
  have hwc : Wg ≠ ch := fun e => by have := h.base.hwg; rw [e, hc] at this; cases this
  have hwf : Wg ≠ frb := fun e => by have := h.base.hwg; rw [e, hf] at this; cases this
  have hec : e ≠ ch := fun e1 => by have := h.base.het; rw [e1, hc] at this; cases this
  have hef2 : e ≠ frb := fun e1 => by have := h.base.het; rw [e1, hf] at this; cases this
  have hebc : eb ≠ ch := fun e1 => by
    have := h.base.ebT; rw [e1, hc] at this; rcases this with h | h <;> cases h
  have heb : (M.retag ch frb mf S O).tag eb = .const := by
    rcases h.ebS with h1 | ⟨h1, h2⟩
    · exact retag_keep hebc hef h1 (by simp)
    · exact retag_const hebc hef h1 h2 hem
  refine ⟨⟨⟨retag_keep hwc hwf h.base.hwg (by simp), h.base.shp, retag_keep hec hef2 h.base.het (by simp), h.base.hel, ⟨h.base.held.size, h.base.held.tape, h.base.held.os, h.base.held.output, h.base.held.deaf, fun b hb ht => ?_⟩, .inr heb, h.base.ebC, ⟨fun q hq => ?_, h.base.fros.nd⟩, h.base.fb, h.base.mat, ?_⟩,
    h.snl, .inl heb, Nat.le_refl _, h.fr0, h.frm⟩, heb⟩
  · obtain ⟨h1, h2⟩ := h.base.held.own b hb ht
    have hb1 : b ≠ ch := by omega
    have hb2 : b ≠ frb := by omega
    have hb3 : b ≠ mf := by omega
    refine ⟨.inl ?_, h2⟩
    rcases h1 with h1 | ⟨h1, h3⟩
    · exact retag_keep hb1 hb2 h1 (by simp)
    · exact retag_const hb1 hb2 h1 h3 hb3
  · have hq1 := h.base.fros.ok q hq
    have hqc : q.b ≠ ch := fun e1 => by have := hq1.tag; rw [e1, hc] at this; cases this
    exact ⟨retag_keep hqc (hnf q hq) hq1.tag (by simp), hq1.cell⟩
  · refine ⟨h.base.bf.1, h.base.bf.2.imp id fun ⟨cap, c, t, h1, h2, h3, h4, h5, h6⟩ => ⟨cap, c, t, h1, ?_, h3, h4, h5, h6⟩⟩
    have hmc : mf ≠ ch := fun e1 => by rw [e1, hc] at h2; cases h2
    exact retag_mf hmc hmf h2
theorem I2.relM {m : Nat} (h : I2 ty Wg e eb S Oc wc mf sf O w fro qs sn) (k : RelM m O w O1 w1) (hm : O.tag m = .front) (hq : ∀ q ∈ fro, q.b ≠ m) (hmw : wc.heap.size ≤ m) : I2 ty Wg e eb S Oc wc mf sf O1 w1 fro qs sn := by
  have hlt := shape_lt h.base.shp
  have hebl := (Array.getElem?_eq_some_iff.1 h.base.ebC).1
  have hs : Sees x0 O eb := h.base.ebT.elim .inl fun h => .inr (.inl ⟨h, .inl rfl⟩)
  have hne : eb ≠ m := fun e => by
    have := h.base.ebT
    rw [e, hm] at this
    rcases this with h | h <;> cases h
  exact ⟨⟨k.sy _ hlt h.base.hwg, (k.shp _ hlt h.base.hwg).trans h.base.shp, k.sy _ h.base.hel h.base.het, Nat.lt_of_lt_of_le h.base.hel k.size, k.held h.base.held hmw, by rw [k.tags _ hebl hs]; exact h.base.ebT, (k.block _ hebl hne hs).trans h.base.ebC,
    ⟨fun q hq' => by
      have hq1 := h.base.fros.ok q hq'
      have hql := (Array.getElem?_eq_some_iff.1 hq1.cell).1
      have hqs : Sees x0 O q.b := .inr (.inr ⟨hq1.tag, rfl⟩)
      exact ⟨(k.tags _ hql hqs).trans hq1.tag, (k.block _ hql (hq q hq') hqs).trans hq1.cell⟩, h.base.fros.nd⟩, h.base.fb, h.base.mat, k.buf' h.base.bf (by rw [hm]; simp)⟩,
    fun p hp => Nat.lt_of_lt_of_le (h.snl p hp) k.size, by rw [k.tags _ hebl hs]; exact h.ebS, Nat.le_trans h.hS k.size, h.fr0, fun hn => ⟨(h.frm hn).1, (h.frm hn).2.1, Nat.lt_of_lt_of_le (h.frm hn).2.2 k.size⟩⟩
/-- One front more: the buffer has been written. -/
theorem I2.push (h : I2 ty Wg e eb S Oc wc mf sf O w fro qs sn) {q : Fro} {l : List Ent} {mc m' : Nat} {s' : Value} (hq : FrOK O w (rcvE q l)) (hqb : ∀ p ∈ fro, p.b ≠ q.b) (hqw : wc.heap.size ≤ q.b) (hcl : q.c < w.heap.size) (k : Mod O w O1 w1 mc)
    (hmc : (w.heap.size ≤ mc) ∨ (fro ≠ [] ∧ mc = mf)) (hb : Buf 1 x0 O1 w1 m' s' ((fro.map fun q => #[q.ptr]) ++ [#[q.ptr]])) (hm' : eb ≠ m' ∧ wc.heap.size ≤ m') :
    I2 ty Wg e eb S Oc wc m' s' O1 w1 (fro ++ [rcvE q l]) (qs ++ [l]) (rcvS (sn ++ [(q.c, l.map Ent.v)]) sn.length q.c l) := by
  have hlt := shape_lt h.base.shp
  have hebl := (Array.getElem?_eq_some_iff.1 h.base.ebC).1
  have hm'l : m' < w1.heap.size := by
    rcases hb.2 with ⟨hx, _⟩ | ⟨_, _, _, _, _, h5, _⟩
    · simp at hx
    · exact (Array.getElem?_eq_some_iff.1 h5).1
  have hwcl : wc.heap.size ≤ w.heap.size := h.base.held.size
  -- block mc is nobody's but the buffer's
  have hmcT : ∀ b, b < w.heap.size → O.tag b ≠ .mine 0 → b ≠ mc := by
    intro b hb0 ht e1
    subst e1
    rcases hmc with h1 | ⟨hf, rfl⟩
    · omega
    · rcases h.base.bf.2 with ⟨h4, _⟩ | ⟨_, _, _, _, h4, _⟩
      · simp at h4; exact hf h4
      · exact ht h4
  have heb : eb ≠ mc := by
    rcases hmc with h1 | ⟨hf, rfl⟩
    · omega
    · exact (h.frm hf).1
  have hwm : wc.heap.size ≤ mc := by
    rcases hmc with h1 | ⟨hf, rfl⟩
    · omega
    · exact (h.frm hf).2.1
  have hqt := hq.tag
  rw [rcvE_b] at hqt
  have hql : q.b < w.heap.size := by have := (Array.getElem?_eq_some_iff.1 hq.cell).1; rwa [rcvE_b] at this
  have frok : ∀ p, FrOK O w p → FrOK O1 w1 p := fun p hp => hp.keep k (hmcT _ (Array.getElem?_eq_some_iff.1 hp.cell).1 (by rw [hp.tag]; simp))
  have sync : ∀ b, b < w.heap.size → O.tag b = .sync → b ≠ mc := fun b hb ht => hmcT b hb (by rw [ht]; simp)
  refine ⟨⟨(k.tags _ hlt).trans h.base.hwg, (shape_congr (k.block _ hlt (sync _ hlt h.base.hwg))).trans h.base.shp, (k.tags _ h.base.hel).trans h.base.het, Nat.lt_of_lt_of_le h.base.hel k.size, h.base.held.mod k hwm, by rw [k.tags _ hebl]; exact h.base.ebT, (k.block _ hebl heb).trans h.base.ebC,
    ⟨fun p hp => ?_, ?_⟩, fun p hp => ?_, h.base.mat.push q l, ?_⟩, fun p hp => ?_, by rw [k.tags _ hebl]; exact h.ebS, Nat.le_trans h.hS k.size, fun hn => by simp at hn, fun _ => ?_⟩
  · rcases List.mem_append.1 hp with hp | hp
    · exact frok p (h.base.fros.ok p hp)
    · simp at hp; subst hp; exact frok _ hq
  · rw [List.map_append, List.map_cons, List.map_nil, rcvE_b]
    refine List.nodup_append.2 ⟨h.base.fros.nd, by simp, ?_⟩
    intro a ha b hb2
    simp at hb2; subst hb2
    obtain ⟨p, hp, rfl⟩ := List.mem_map.1 ha
    exact hqb p hp
  · rcases List.mem_append.1 hp with hp | hp
    · exact h.base.fb p hp
    · simp at hp; subst hp; rw [rcvE_b]; exact hqw
  · rw [List.map_append, List.map_cons, List.map_nil]
    have : (rcvE q l).ptr = q.ptr := by unfold Fro.ptr; rw [rcvE_b]
    rw [this]; exact hb
  · have hmem : p.1 = q.c ∨ ∃ p' ∈ sn, p.1 = p'.1 := by
      cases l with
      | nil =>
        simp only [rcvS] at hp
        rcases List.mem_append.1 hp with hp | hp
        · exact .inr ⟨p, hp, rfl⟩
        · simp at hp; subst hp; exact .inl rfl
      | cons a r =>
        simp only [rcvS] at hp
        rcases List.mem_or_eq_of_mem_set hp with hp | hp
        · rcases List.mem_append.1 hp with hp | hp
          · exact .inr ⟨p, hp, rfl⟩
          · simp at hp; subst hp; exact .inl rfl
        · subst hp; exact .inl rfl
    rcases hmem with h1 | ⟨p', h1, h2⟩
    · rw [h1]; exact Nat.lt_of_lt_of_le hcl k.size
    · rw [h2]; exact Nat.lt_of_lt_of_le (h.snl p' h1) k.size
  · exact ⟨hm'.1, hm'.2, hm'l⟩
end

/-- A child knows what is const. -/
theorem ldOf_child {O : Gh} {w : World} {a : Addr} {v : Value} (id : Nat) (d : Nat) (ht : O.tag a.block = .const) (h : w.cell? a = some v) : ldOf ⟨id, w.heap.size⟩ { O with deaf := d } w a = some v :=
  ldOf_of (.inr (.inl ⟨ht, .inr (cell?_lt h)⟩)) h
theorem ldOf_childF {O : Gh} {w : World} {b : Nat} {v : Value} (id : Nat) (d : Nat) (ht : O.tag b = .front) (h : w.cell? ⟨b, 0, none⟩ = some v) : ldOf ⟨id, w.heap.size⟩ { O with deaf := d } w ⟨b, 0, none⟩ = some v := by
  unfold ldOf
  rw [if_pos ⟨cell?_lt h, .inr ⟨rfl, ht, cell?_lt h⟩⟩]; exact h
/-- A block of main's own. -/
structure Own (O : Gh) (w : World) (m : Nat) (o : Obj) : Prop where
  tag : O.tag m = .mine 0
  obj : w.heap[m]? = some o
theorem Own.lt {O : Gh} {w : World} {m : Nat} {o : Obj} (h : Own O w m o) : m < w.heap.size := (Array.getElem?_eq_some_iff.1 h.obj).1
theorem Own.rel {O O1 : Gh} {w w1 : World} {m : Nat} {o : Obj} (h : Own O w m o) (r : Rel x0 O w O1 w1) : Own O1 w1 m o := ⟨(r.tags _ h.lt (.inl h.tag)).trans h.tag, (r.block _ h.lt (.inl h.tag)).trans h.obj⟩
theorem Own.mod {O O1 : Gh} {w w1 : World} {m m' : Nat} {o : Obj} (h : Own O w m o) (k : Mod O w O1 w1 m') (hm : m ≠ m') : Own O1 w1 m o := ⟨(k.tags _ h.lt).trans h.tag, (k.block _ h.lt hm).trans h.obj⟩
/-- A new channel, not yet handed over. -/
structure Chn (O : Gh) (w : World) (m : Nat) : Prop where
  tag : O.tag m = .fresh
  obj : w.heap[m]? = some (.chan 0 #[] false 0 0 false)
theorem Chn.lt {O : Gh} {w : World} {m : Nat} (h : Chn O w m) : m < w.heap.size := (Array.getElem?_eq_some_iff.1 h.obj).1
theorem Chn.rel {O O1 : Gh} {w w1 : World} {m : Nat} (h : Chn O w m) (r : Rel x0 O w O1 w1) : Chn O1 w1 m := by
  obtain ⟨h1, h2⟩ := r.fresh rfl m h.lt h.tag
  exact ⟨h1, h2.trans h.obj⟩
theorem Chn.mod {O O1 : Gh} {w w1 : World} {m m' : Nat} (h : Chn O w m) (k : Mod O w O1 w1 m') (hm : m ≠ m') : Chn O1 w1 m := ⟨(k.tags _ h.lt).trans h.tag, (k.block _ h.lt hm).trans h.obj⟩
end Go.Proofs.Ytdajdembeacefaa.M

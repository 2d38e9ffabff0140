/-
  THE STOPS of First's phase: what each goroutine does at each place where it meets the others, as predicates over walks. 'Sender': sends each of its values (or takes the word 'enough'), closes, releases, counts down, leaves. 'Main': adds, starts a sender, receives, closes 'enough', waits, acquires.
-/
import Derived.Test.YtdajdembeacefaaF
set_option linter.unusedSimpArgs false
set_option linter.unusedVariables false
namespace Go.Proofs.Ytdajdembeacefaa.M
open Go.Conc
open Go.ConcR (KK wgBlock WgAt stA smA rd wr mk)

section
variable (P : Program) (ty : TypeId) (Wg e : Nat)

/-! ### a sender: behind its release it touches nothing of its own -/
/-- Steps that are the same in every world and list mute words alone, up to a stop; d: how often it is deaf. -/
def Slip (P : Program) (St : Nat → Goroutine → Prop) : Nat → Nat → Goroutine → Prop
  | 0, d, g => St d g
  | n + 1, d, g => St d g ∨ (g.status = .running ∧ ∃ g' es, (∀ e ∈ es, Event.mute e = true) ∧ (∀ w, stepG P false g w = .go g' w es) ∧ Slip P St n (deafBehind d es) g')
def AtD4 (d : Nat) (g : Goroutine) : Prop :=
  g.status = .running ∧ d = 1 ∧ mayWake P g = true ∧ ∀ w, WgAt ty Wg w 0 0 → ∃ g', stepG P false g w = .go g' (w.setCell (smA Wg) (.int .u32 1)) (semEvents (smA Wg)) ∧ ∃ q, QuitsD P q 1 g'
def AtD3 (d : Nat) (g : Goroutine) : Prop :=
  g.status = .running ∧ d = 1 ∧ ∀ w, WgAt ty Wg w 1 0 → ∃ g', stepG P false g w = .go g' (w.setCell (stA Wg) (.int .u64 0)) #[wr (stA Wg)] ∧ ∃ q, Slip P (AtD4 P ty Wg) q 1 g'
def AtD2 (d : Nat) (g : Goroutine) : Prop :=
  g.status = .running ∧ d = 1 ∧ ∀ w, WgAt ty Wg w 1 0 → ∃ g', stepG P false g w = .go g' w #[rd (stA Wg)] ∧ ∃ q, Slip P (AtD3 P ty Wg) q 1 g'
def AtD1 (d : Nat) (g : Goroutine) : Prop :=
  g.status = .running ∧ d = 1 ∧ ∀ (w : World) (v wt : Nat), wt ≤ 1 → v < 2147483647 → WgAt ty Wg w ((v + 1) * KK + wt) 0 →
    ∃ g', stepG P false g w = .go g' (w.setCell (stA Wg) (.int .u64 (v * KK + wt))) #[rd (stA Wg), wr (stA Wg)] ∧
      ((v = 0 ∧ wt = 1) → ∃ q, Slip P (AtD2 P ty Wg) q 1 g') ∧ (¬ (v = 0 ∧ wt = 1) → ∃ q, QuitsD P q 1 g')
section
variable (x : Th)
def AtR0 (O : Gh) (g : Goroutine) (_w : World) : Prop :=
  g.status = .running ∧ O.deaf = 0 ∧ ∃ g', (∀ w, stepG P false g w = .go g' w #[mk (.releaseMerge (stA Wg))]) ∧ ∃ q, Slip P (AtD1 P ty Wg) q 0 g'
def closeEv (c : Nat) : Array Event := #[⟨.obj c, false, true⟩, ⟨.obj c, true, true⟩]
def AtClose (c : Nat) (O : Gh) (g : Goroutine) (w : World) : Prop :=
  g.status = .running ∧ O.deaf = 0 ∧ mayWake P g = true ∧ ∀ s r tm, w.heap[c]? = some (.chan 0 #[] false s r tm) →
    ∃ g', stepG P false g w = .go g' (w.shut c s r tm) (closeEv c) ∧ g'.status = .running ∧ Tree P x (AtR0 P ty Wg) O g' (w.shut c s r tm)
/-- At the select: the value v to be sent, or 'enough'. -/
def AtSel (c : Nat) (v : Value) (Next : Gh → Goroutine → World → Prop) (O : Gh) (g : Goroutine) (w : World) : Prop :=
  g.status = .running ∧ g.offers = none ∧ ∃ z z2, (∀ w, stepG P false g w = .comm g #[scase c v z, rcase e z2] true .select w #[]) ∧
    ∀ O1 w1, Rel x O w O1 w1 → Next O1 (Go.Conc.served g (selSent z2)) w1 ∧ Tree P x (AtClose P ty Wg x c) O1 (Go.Conc.served g (selShut z2)) w1
/-- THE SENDER's SCRIPT. -/
def SRun (c : Nat) : List Value → Gh → Goroutine → World → Prop
  | [] => Tree P x (AtClose P ty Wg x c)
  | v :: l => Tree P x (AtSel P ty Wg e x c v (SRun c l))
def SStop (c : Nat) : List Value → Gh → Goroutine → World → Prop
  | [] => AtClose P ty Wg x c
  | v :: l => AtSel P ty Wg e x c v (SRun P ty Wg e x c l)
theorem SRun_eq (c : Nat) (l : List Value) : SRun P ty Wg e x c l = Tree P x (SStop P ty Wg e x c l) := by cases l <;> rfl
end

/-! ### main -/
def x0 : Th := ⟨0, 0⟩
/-- Behind the phase all blocks that are not 'sync' are main's. -/
def reset (O : Gh) : Gh := { O with tag := fun b => match O.tag b with | .sync => .sync | _ => .mine 0 }
section
variable (Fin AnchW : Gh → Goroutine → World → Prop)
def AtAcq (O : Gh) (g : Goroutine) (w : World) : Prop :=
  g.status = .running ∧ O.deaf = 0 ∧ ∃ g', stepG P true g w = .go g' w #[mk (.acquire (stA Wg))] ∧ ∀ O1 w1, Rel x0 O w O1 w1 → Tree P x0 Fin (reset O1) g' w1
def AtW4 (O : Gh) (g : Goroutine) (w : World) : Prop :=
  g.status = .running ∧ (WgAt ty Wg w 0 0 → ∃ g', stepG P true g w = .go g' w #[rd (stA Wg)] ∧ Tree P x0 (AtAcq P Wg Fin) O g' w)
def AtW3 (O : Gh) (g : Goroutine) (w : World) : Prop :=
  g.status = .running ∧ g.offers = none ∧
    ((∃ st, WgAt ty Wg w st 0) → stepG P true g w = .go { g with status := .blocked } w #[]) ∧
    (WgAt ty Wg w 0 1 → ∃ g', stepG P true g w = .go g' (w.setCell (smA Wg) (.int .u32 0)) (semEvents (smA Wg)) ∧ Tree P x0 (AtW4 P ty Wg Fin) O g' (w.setCell (smA Wg) (.int .u32 0)))
def AtW2 (vs : Nat) (O : Gh) (g : Goroutine) (w : World) : Prop :=
  g.status = .running ∧ ∀ v : Nat, v < 2147483648 → WgAt ty Wg w (v * KK) 0 →
    (v = vs → ∃ g', stepG P true g w = .go g' (w.setCell (stA Wg) (.int .u64 (v * KK + 1))) #[rd (stA Wg), wr (stA Wg)] ∧ Tree P x0 (AtW3 P ty Wg Fin) O g' (w.setCell (stA Wg) (.int .u64 (v * KK + 1)))) ∧
    (v ≠ vs → ∃ g', stepG P true g w = .go g' w #[rd (stA Wg)] ∧ Tree P x0 AnchW O g' w)
def AtW1 (O : Gh) (g : Goroutine) (w : World) : Prop :=
  g.status = .running ∧ ∀ v : Nat, v < 2147483648 → WgAt ty Wg w (v * KK) 0 → ∃ g', stepG P true g w = .go g' w #[rd (stA Wg)] ∧
    (v = 0 → Tree P x0 (AtAcq P Wg Fin) O g' w) ∧ (v ≠ 0 → Tree P x0 (AtW2 P ty Wg Fin AnchW v) O g' w)
def AtEnough (O : Gh) (g : Goroutine) (w : World) : Prop :=
  g.status = .running ∧ O.deaf = 0 ∧ mayWake P g = true ∧ ∀ s r tm, w.heap[e]? = some (.chan 0 #[] false s r tm) →
    ∃ g', stepG P true g w = .go g' (w.shut e s r tm) (closeEv e) ∧ g'.status = .running ∧ Tree P x0 AnchW O g' (w.shut e s r tm)

/-- A sender as main's script knows it: its channel, what it still has to send. -/
abbrev Snd := Nat × List Value
/-- The tags turn at a go statement: main's own blocks from S on may become 'const' or 'front'. -/
def Retag (S : Nat) (O O' : Gh) : Prop := O'.deaf = O.deaf ∧ ∀ b, O'.tag b = O.tag b ∨ (O.tag b = .mine 0 ∧ (O'.tag b = .const ∨ O'.tag b = .front) ∧ S ≤ b) ∨ (O.tag b = .fresh ∧ O'.tag b = .sync)
variable (Next : Nat → List Snd → Gh → Goroutine → World → Prop)
/-- At the go statement: one sender more, with a new channel and its list. -/
def AtGo (S : Nat) (sn : List Snd) (O : Gh) (g : Goroutine) (w : World) : Prop :=
  g.status = .running ∧ O.deaf = 0 ∧ sn.length < 2147483646 ∧ ∃ g' child O' c l s r tm, stepG P true g w = .spawn g' child w #[] ∧ child.status = .running ∧ Retag S O O' ∧
    w.heap[c]? = some (.chan 0 #[] false s r tm) ∧ O'.tag c = .sync ∧ c ≠ e ∧ c ≠ Wg ∧ (∀ p ∈ sn, p.1 ≠ c) ∧
    (∀ id, 0 < id → SRun P ty Wg e ⟨id, w.heap.size⟩ c l { O' with deaf := 0 } child w) ∧ Next w.heap.size (sn ++ [(c, l)]) O' g' w
def AtAdd (S : Nat) (sn : List Snd) (O : Gh) (g : Goroutine) (w : World) : Prop :=
  g.status = .running ∧ ∀ v : Nat, v ≤ sn.length → WgAt ty Wg w (v * KK) 0 →
    ∃ g', stepG P true g w = .go g' (w.setCell (stA Wg) (.int .u64 ((v + 1) * KK))) #[rd (stA Wg), wr (stA Wg)] ∧ Tree P x0 (AtGo P ty Wg e Next S sn) O g' (w.setCell (stA Wg) (.int .u64 ((v + 1) * KK)))
/-- What a receive from sender number j brings. -/
def RecvNext (S : Nat) (sn : List Snd) (j c : Nat) (l : List Value) (z : Value) (O : Gh) (g : Goroutine) (w : World) : Prop := match l with
  | [] => Next S sn O (Go.Conc.served g (.tuple #[z, .bool false])) w
  | v :: l => Next S (sn.set j (c, l)) O (Go.Conc.served g (.tuple #[v, .bool true])) w
/-- At a receive from sender number j. -/
def AtRecv (S : Nat) (sn : List Snd) (O : Gh) (g : Goroutine) (w : World) : Prop :=
  g.status = .running ∧ g.offers = none ∧ ∃ j c l z, sn[j]? = some (c, l) ∧ (∀ w, stepG P true g w = .comm g #[rcase c z] true (.recv true) w #[]) ∧
    ∀ O1 w1, Rel x0 O w O1 w1 → RecvNext Next S sn j c l z O1 g w1
/-- MAIN's SCRIPT, F stops long at most. -/
def MStop (S : Nat) (sn : List Snd) (O : Gh) (g : Goroutine) (w : World) : Prop :=
  AtAdd P ty Wg e Next S sn O g w ∨ AtRecv P Next S sn O g w ∨ AtEnough P e AnchW O g w
end
def MRun (AnchW : Gh → Goroutine → World → Prop) : Nat → Nat → List Snd → Gh → Goroutine → World → Prop
  | 0 => fun _ _ _ _ _ => False
  | F + 1 => fun S sn => Tree P x0 (MStop P ty Wg e AnchW (MRun AnchW F) S sn)
end
end Go.Proofs.Ytdajdembeacefaa.M

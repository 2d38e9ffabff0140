/-
  MergeCompacts: for every input the call returns true, and each argument reads afterwards as it read before; without a condition.
-/
import Derived.Test.YtdajdembeacefaaBT
set_option linter.unusedSimpArgs false
set_option linter.unusedVariables false
namespace Go.Proofs.Ytdajdembeacefaa
open Go.ChangeShapes Go.WideShapes Go.ChangeAt Go.RowKit Go.Conc

set_option maxRecDepth 100000 in
theorem mergeCompacts_lifted (os : Os) (started : os.Started) (H : Type) (enc : TypeId × Value → H) :
    ReturnsInLeavingWide {} Try.checked os 6 .any (Rows.mergeCompactsSpec.pre6 enc Try.prog Try.f6 Rows.mergeCompactsRow.domain false) (Rows.mergeCompactsSpec.post enc Try.prog Try.f6 false true false false) := by
  refine returnsInLeavingWide_of_change_sized (C := Try.checked) own started Try.func6
    (ChangeSpec.witness6 (enc := enc) (C := Try.checked) false ⟨#[], #[.slice none 0 0, .int .i64 0, .bool false], []⟩ 8 (by kernel_rfl) (by kernel_rfl) (by kernel_rfl) (by kernel_rfl)) ?_
  intro W base args ds gs before hval0 hW _ hsz0 _
  have hval : ∀ (j : Nat) t v, Try.f6.params[j]? = some t → args[j]? = some v → Value.okWide Try.prog W .any base t v := hval0
  have hW' := hW
  obtain ⟨p, q, hA0, hV, rfl, _, _⟩ := hW
  have hA : DataW.TrodAll enc Try.prog W 0 (fun _ => true) true Try.f6.params.toList args.toList ds p := hA0
  rw [Try.params6] at hA hval
  obtain ⟨v0, v1, v2, d0, d1, d2, p0, p1, p2, rfl, rfl, rfl, h0, h1, h2⟩ := trodAll_three hA
  obtain ⟨rfl, rfl⟩ := trodVars_none hV
  obtain ⟨a0, len, cap, rfl⟩ := okWide_slice Try.underlying22 (hval 0 22 v0 rfl rfl)
  obtain ⟨n, rfl, rfl, rfl, wn⟩ := open_int (show Try.prog.underlying 3 = some (.int .i64) from rfl) (hval 1 3 v1 rfl rfl) h1
  obtain ⟨bt, rfl, rfl, rfl⟩ := open_bool (show Try.prog.underlying 4 = some .bool from rfl) (hval 2 4 v2 rfl rfl) h2
  clear hA0 hval0
  simp only [List.append_nil] at hW'
  have hlt : ∀ x ∈ p0, x.block < W.heap.size := fun x hx => by simpa using hW'.lt x (by simpa using hx)
  have h0k := h0
  obtain ⟨fuel, hf⟩ := h0
  obtain ⟨ls, hls⟩ := M.read_lists (L := M.ldOf M.x0 M.O0 W) (fun a v h => M.ld0 a v h) (show DataW.trod enc Try.prog W 0 (fun _ => true) true fuel 22 [.slice a0 len cap] = some (d0, p0) from hf)
  have e1 : (Rows.mergeCompactsSpec.fn H ([d0, .lit (.int .i64 n), .lit (.bool bt)] ++ [])).results = [.lit (.bool true)] := rfl
  have e2 : (Rows.mergeCompactsSpec.fn H ([d0, .lit (.int .i64 n), .lit (.bool bt)] ++ [])).args = [d0, .lit (.int .i64 n), .lit (.bool bt)] := rfl
  have e3 : (Rows.mergeCompactsSpec.fn H ([d0, .lit (.int .i64 n), .lit (.bool bt)] ++ [])).vars = [] := rfl
  obtain ⟨M, last, o, w', t', r1, r2, r3, r4⟩ := M.start_run (Post := fun v W' => Rows.mergeCompactsSpec.post enc Try.checked.prog Try.f6 false true false false W #[.slice a0 len cap, .int .i64 n, .bool bt] v W')
    (M.mergeCompacts_M ls (.slice a0 len cap) n bt M.O0 W hls rfl fun O' w' k => by
      have hb := M.keep_below k
      refine ⟨_, _, _, [], p0 ++ [], [], hW', ?_, ?_, by rw [e3]; rfl, hb.frame _, fun h => by cases h⟩
      · rw [e1]; exact trodAll_mk1 (shut_bool rfl true)
      · rw [e2]
        exact trodAll_mk3 (Below.trod laidOut (by kernel_rfl) (of_decide_eq_true (by kernel_rfl)) h0k hb hlt) (shut_int rfl wn) (shut_bool rfl bt))
  exact ⟨M, last, o, w', t', r1, r2, r3, r4⟩

theorem mergeCompacts_holds : Rows.MergeCompactsSaid :=
  OpenClaim.holds_of_wide_leaving 6 Try.f6 rfl rfl rfl rfl rfl rfl rfl ⟨rfl, rfl, rfl, rfl, rfl⟩ rfl rfl rfl rfl rfl (by kernel_rfl) Try.func6 (by kernel_rfl)
    (of_decide_eq_true (by kernel_rfl)) (by unfold Func.isWrapper; first | (rw [if_pos (by decide +kernel)]; kernel_rfl) | (rw [if_neg (by decide +kernel)]; exact ⟨rfl, rfl⟩))
    (fun os started H enc _ => mergeCompacts_lifted os started H enc)
#print axioms mergeCompacts_holds
end Go.Proofs.Ytdajdembeacefaa

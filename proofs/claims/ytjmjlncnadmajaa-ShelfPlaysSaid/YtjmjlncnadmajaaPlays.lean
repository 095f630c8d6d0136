/-
  The law ShelfPlays answers true for every input, and its arguments read afterwards as before; no condition is asked.
-/
import Derived.Test.YtjmjlncnadmajaaSd
import Derived.Test.YtjmjlncnadmajaaSc
set_option linter.unusedSimpArgs false
set_option linter.unusedVariables false

namespace Go.Proofs.T
open Go Go.Hb Go.ChangeShapes Go.WideShapes Go.ChangeAt Go.RowKit Go.Joins Go.Proofs.Ytjmjlncnadmajaa

set_option maxRecDepth 100000 in
theorem plays_lifted (os : Os) (started : os.Started) (H : Type) (enc : TypeId × Value → H) :
    ReturnsInHanded {} Try.checked os 6 .any (Rows.shelfPlaysSpec.pre6 enc Try.prog Try.f6 Rows.shelfPlaysRow.domain false) (Rows.shelfPlaysSpec.post enc Try.prog Try.f6 false true false false) := by
  refine returnsInHanded_of_change (C := Try.checked) own started (by kernel_rfl) Try.func6
    (ChangeSpec.witness6 (enc := enc) (C := Try.checked) false ⟨#[], #[.agg #[.slice none 0 0, .slice none 0 0], .slice none 0 0], []⟩ 8 (by kernel_rfl) (by kernel_rfl) (by kernel_rfl) (by kernel_rfl)) ?_
  intro W base args ds gs before hval hW _ _
  have hW' := hW
  obtain ⟨p, q, hA0, hV, rfl, hfz, hnd⟩ := hW
  have hA : DataW.TrodAll enc Try.prog W 0 (fun _ => true) true Try.f6.params.toList args.toList ds p := hA0
  rw [Try.params6] at hA hval
  obtain ⟨v0, vs0, d0, ds0, p0, q0, hargs, rfl, rfl, h0, r0⟩ := trodAll_cons hA
  obtain ⟨v1, vs1, d1, ds1, p1, q1, rfl, rfl, rfl, h1, r1⟩ := trodAll_cons r0
  obtain ⟨rfl, rfl, rfl⟩ := trodAll_nil r1
  obtain rfl : args = #[v0, v1] := by cases args; simp_all
  obtain ⟨a0, e0⟩ := open_shelf (hval 0 25 v0 rfl rfl) h0
  obtain ⟨a1, b1, e1⟩ := open_acts (hval 1 43 v1 rfl rfl) h1
  refine law_calls (tb := 4) is6 laidOut ?_ (by kernel_rfl) Try.underlying4 rfl ?_ hW' (av := [sAV a0, aAV a1]) ?_ (plays6 a0 a1 b1)
  · rw [Try.params6]
    intro t ht
    simp only [List.mem_cons, List.not_mem_nil, or_false] at ht
    rcases ht with rfl | rfl
    · exact ⟨by kernel_rfl, of_decide_eq_true (by kernel_rfl)⟩
    · exact ⟨by kernel_rfl, of_decide_eq_true (by kernel_rfl)⟩
  · intro ds hl
    rw [Try.params6] at hl
    match ds, hl with
    | [a, b], _ => exact ⟨rfl, rfl, rfl⟩
  · simp only [RelVs]
    exact ⟨e0, e1, trivial⟩

theorem plays_holds : Rows.ShelfPlaysSaid :=
  OpenClaim.holds_of_wide 6 Try.f6 rfl rfl rfl rfl rfl rfl rfl ⟨rfl, rfl, rfl, rfl, rfl⟩ rfl rfl rfl rfl rfl (by kernel_rfl) Try.func6 (by kernel_rfl)
    (of_decide_eq_true (by kernel_rfl)) (by unfold Func.isWrapper; first | (rw [if_pos (by decide +kernel)]; kernel_rfl) | (rw [if_neg (by decide +kernel)]; exact ⟨rfl, rfl⟩))
    (fun os started H enc _ => plays_lifted os started H enc)
end Go.Proofs.T
namespace Go.Proofs.Ytjmjlncnadmajaa
/-- The law's statement. -/
theorem plays_said : Rows.ShelfPlaysSaid := Go.Proofs.T.plays_holds
end Go.Proofs.Ytjmjlncnadmajaa

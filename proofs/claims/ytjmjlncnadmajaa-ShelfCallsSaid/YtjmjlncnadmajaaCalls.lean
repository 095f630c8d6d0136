/-
  The law ShelfCalls answers true for every input, and its arguments read afterwards as before; no condition is asked.
-/
import Derived.Test.YtjmjlncnadmajaaSd
import Derived.Test.YtjmjlncnadmajaaSc
set_option linter.unusedSimpArgs false
set_option linter.unusedVariables false

namespace Go.Proofs.T
open Go Go.Hb Go.ChangeShapes Go.WideShapes Go.ChangeAt Go.RowKit Go.Joins Go.Proofs.Ytjmjlncnadmajaa

set_option maxRecDepth 100000 in
theorem calls_lifted (os : Os) (started : os.Started) (H : Type) (enc : TypeId × Value → H) :
    ReturnsInHanded {} Try.checked os 7 .any (Rows.shelfCallsSpec.pre6 enc Try.prog Try.f7 Rows.shelfCallsRow.domain false) (Rows.shelfCallsSpec.post enc Try.prog Try.f7 false true false false) := by
  refine returnsInHanded_of_change (C := Try.checked) own started (by kernel_rfl) Try.func7
    (ChangeSpec.witness6 (enc := enc) (C := Try.checked) false ⟨#[], #[.agg #[.slice none 0 0, .slice none 0 0], .slice none 0 0, .string .empty], []⟩ 8 (by kernel_rfl) (by kernel_rfl) (by kernel_rfl) (by kernel_rfl)) ?_
  intro W base args ds gs before hval hW _ _
  have hW' := hW
  obtain ⟨p, q, hA0, hV, rfl, hfz, hnd⟩ := hW
  have hA : DataW.TrodAll enc Try.prog W 0 (fun _ => true) true Try.f7.params.toList args.toList ds p := hA0
  rw [Try.params7] at hA hval
  obtain ⟨v0, vs0, d0, ds0, p0, q0, hargs, rfl, rfl, h0, r0⟩ := trodAll_cons hA
  obtain ⟨v1, vs1, d1, ds1, p1, q1, rfl, rfl, rfl, h1, r1⟩ := trodAll_cons r0
  obtain ⟨v2, vs2, d2, ds2, p2, q2, rfl, rfl, rfl, h2, r2⟩ := trodAll_cons r1
  obtain ⟨rfl, rfl, rfl⟩ := trodAll_nil r2
  obtain rfl : args = #[v0, v1, v2] := by cases args; simp_all
  obtain ⟨a0, e0⟩ := open_shelf (hval 0 25 v0 rfl rfl) h0
  obtain ⟨a1, b1, e1⟩ := open_acts (hval 1 43 v1 rfl rfl) h1
  obtain ⟨a2, e2⟩ := open_str (hval 2 9 v2 rfl rfl) h2
  refine law_calls (tb := 4) is7 laidOut ?_ (by kernel_rfl) Try.underlying4 rfl ?_ hW' (av := [sAV a0, aAV a1, .s a2]) ?_ (calls7 a0 a1 a2 b1)
  · rw [Try.params7]
    intro t ht
    simp only [List.mem_cons, List.not_mem_nil, or_false] at ht
    rcases ht with rfl | rfl | rfl
    · exact ⟨by kernel_rfl, of_decide_eq_true (by kernel_rfl)⟩
    · exact ⟨by kernel_rfl, of_decide_eq_true (by kernel_rfl)⟩
    · exact ⟨by kernel_rfl, of_decide_eq_true (by kernel_rfl)⟩
  · intro ds hl
    rw [Try.params7] at hl
    match ds, hl with
    | [a, b, c], _ => exact ⟨rfl, rfl, rfl⟩
  · simp only [RelVs]
    exact ⟨e0, e1, e2, trivial⟩

theorem calls_holds : Rows.ShelfCallsSaid :=
  OpenClaim.holds_of_wide 7 Try.f7 rfl rfl rfl rfl rfl rfl rfl ⟨rfl, rfl, rfl, rfl, rfl⟩ rfl rfl rfl rfl rfl (by kernel_rfl) Try.func7 (by kernel_rfl)
    (of_decide_eq_true (by kernel_rfl)) (by unfold Func.isWrapper; first | (rw [if_pos (by decide +kernel)]; kernel_rfl) | (rw [if_neg (by decide +kernel)]; exact ⟨rfl, rfl⟩))
    (fun os started H enc _ => calls_lifted os started H enc)
end Go.Proofs.T
namespace Go.Proofs.Ytjmjlncnadmajaa
/-- The law's statement. -/
theorem calls_said : Rows.ShelfCallsSaid := Go.Proofs.T.calls_holds
end Go.Proofs.Ytjmjlncnadmajaa

/-
  The law SpreadPower answers true for every input, and its arguments read afterwards as before; the listed package variables hold what the program's text lays.
-/
import Derived.Test.YtpcnfokdhiknhaaGreatDoorSpreadPowerGi
set_option linter.unusedSimpArgs false
set_option linter.unusedVariables false
set_option linter.unusedSectionVars false

namespace Go.Proofs.T
open Go Go.Hb Go.ChangeShapes Go.WideShapes Go.ChangeAt Go.RowKit Go.Joins Go.Proofs.YtpcnfokdhiknhaaGreatDoor

theorem power_reads (os : Os) {H : Type} (enc : TypeId × Value → H) : ∃ x, DataW.whole enc Tryz.prog ((World.laidAll Tryz.prog os Rows.spreadPowerRow.laid).forCall (fun _ _ => 0) ⟨#[], #[.string .empty, .string .empty, .int .u8 0], []⟩).memory Tryz.f5.params.toList Rows.spreadPowerSpec.vars false (#[.string .empty, .string .empty, .int .u8 0] : Array Value).toList 8 = some x ∧ (x.1, x.2.1) = ([.lit (.string []), .lit (.string []), .lit (.int .u8 0)], []) := by
  have hw : (DataW.whole enc Tryz.prog ((World.laidAll Tryz.prog os Rows.spreadPowerRow.laid).forCall (fun _ _ => 0) ⟨#[], #[.string .empty, .string .empty, .int .u8 0], []⟩).memory Tryz.f5.params.toList Rows.spreadPowerSpec.vars false (#[.string .empty, .string .empty, .int .u8 0] : Array Value).toList 8).map (fun x => (x.1, x.2.1)) = some ([.lit (.string []), .lit (.string []), .lit (.int .u8 0)], []) := by kernel_rfl
  exact Option.map_eq_some_iff.1 hw
set_option maxRecDepth 100000 in
set_option maxHeartbeats 2000000 in
theorem power_lifted (os : Os) (started : os.Started) (H : Type) (enc : TypeId × Value → H) (F : Stop.Interp) :
    ReturnsInHanded {} Tryz.checked os 5 .any ((OpenSpec.ofChange Rows.spreadPowerSpec).preRow enc Tryz.prog Tryz.f5 Rows.spreadPowerRow.domain false Rows.spreadPowerRow.laid) (((OpenSpec.ofChange Rows.spreadPowerSpec).at F).post enc Tryz.prog Tryz.f5 false true false false) := by
  obtain ⟨⟨x1, x2, x3⟩, hx, hx1⟩ := power_reads os enc
  simp only [Prod.mk.injEq] at hx1
  obtain ⟨rfl, rfl⟩ := hx1
  refine returnsInHanded_of_row (C := Tryz.checked) (s := (OpenSpec.ofChange Rows.spreadPowerSpec)) own started (by kernel_rfl) Tryz.func5
    (witness_row_atRef (enc := enc) (C := Tryz.checked) false (World.laidAll Tryz.prog os Rows.spreadPowerRow.laid) #[.string .empty, .string .empty, .int .u8 0] (World.laidAll_os _ _ _) (by kernel_rfl) (by kernel_rfl) (by kernel_rfl)
      (OpenSpec.preRow_of_cond 8 hx (by kernel_rfl) (fun k hk => by cases hk) (by kernel_rfl) (by rw [MakeChecks.laidMetH_plain _ _ _ (by kernel_rfl)]; exact laidMet_laidAll _ (by kernel_rfl) (by kernel_rfl)))) ?_
  intro W base args ds gs before hval0 hW _ hcond _ hL _ _
  have hval : ∀ (j : Nat) t v, Tryz.f5.params[j]? = some t → args[j]? = some v → Value.okWide Tryz.prog W .any base t v := hval0
  have ha := amb_of hL
  have hW' := hW
  obtain ⟨p, q, hA0, hV, rfl, hfz, hnd⟩ := hW
  have hA : DataW.TrodAll enc Tryz.prog W 0 (fun _ => true) true Tryz.f5.params.toList args.toList ds p := hA0
  rw [Tryz.params5] at hA hval
  obtain ⟨v0, vs0, d0, ds0, p0, q0, hargs, rfl, rfl, h0, r0⟩ := trodAll_cons hA
  obtain ⟨v1, vs1, d1, ds1, p1, q1, rfl, rfl, rfl, h1, r1⟩ := trodAll_cons r0
  obtain ⟨v2, vs2, d2, ds2, p2, q2, rfl, rfl, rfl, h2, r2⟩ := trodAll_cons r1
  obtain ⟨rfl, rfl, rfl⟩ := trodAll_nil r2
  obtain rfl : args = #[v0, v1, v2] := by cases args; simp_all
  obtain ⟨name, e0⟩ := open_str (hval 0 9 v0 rfl rfl) h0
  obtain ⟨data, e1⟩ := open_str (hval 1 9 v1 rfl rfl) h1
  obtain ⟨l, hl0, hl1, e2⟩ := open_u8 (hval 2 5 v2 rfl rfl) h2
  refine law_calls (s := Rows.spreadPowerSpec) (tb := 4) is5 laidOut ?_ (by kernel_rfl) Tryz.underlying4 rfl ?_ hW' (av := [.s name, .s data, .i .u8 l]) ?_ (power5 hl0 hl1) ha
  · rw [Tryz.params5]
    intro t ht
    simp only [List.mem_cons, List.not_mem_nil, or_false] at ht
    rcases ht with rfl | rfl | rfl
    · exact ⟨by kernel_rfl, of_decide_eq_true (by kernel_rfl)⟩
    · exact ⟨by kernel_rfl, of_decide_eq_true (by kernel_rfl)⟩
    · exact ⟨by kernel_rfl, of_decide_eq_true (by kernel_rfl)⟩
  · intro ds hl
    rw [Tryz.params5] at hl
    match ds, hl with
    | [a, b, c], _ => exact ⟨rfl, rfl, rfl⟩
  · simp only [RelVs]
    exact ⟨e0, e1, e2, trivial⟩
theorem power_holds : Rows.SpreadPowerSaid :=
  OpenClaim.holds_of_cond 5 Tryz.f5 rfl rfl rfl rfl rfl rfl rfl ⟨rfl, rfl, rfl, rfl, rfl⟩ rfl rfl rfl rfl rfl (by kernel_rfl) Tryz.func5 (by kernel_rfl)
    (of_decide_eq_true (by kernel_rfl)) (by unfold Func.isWrapper; first | (rw [if_pos (by decide +kernel)]; kernel_rfl) | (rw [if_neg (by decide +kernel)]; exact ⟨rfl, rfl⟩))
    (fun os started H enc _ F => by rw [OpenClaim.pre_eq_preRow]; exact power_lifted os started H enc F)
theorem power_plain (f : FuncId) (fn : Func) (hf : Tryz.pinned.checked.prog.funcNamed "hibernacle/hibernaclelaw37.SpreadPower" = some f) (hfn : Tryz.pinned.checked.prog.funcs[f]? = some fn) :
    true = Tryz.pinned.checked.prog.looks [] ∧ ∀ (j : Nat) t, fn.params[j]? = some t → Tryz.pinned.checked.prog.wantsStandIn t = false := by
  obtain rfl : f = 5 := Option.some.inj ((show Tryz.prog.funcNamed "hibernacle/hibernaclelaw37.SpreadPower" = some 5 by kernel_rfl).symm.trans hf) |>.symm
  obtain rfl : fn = Tryz.f5 := (Option.some.inj (Tryz.func5.symm.trans hfn)).symm
  refine ⟨by kernel_rfl, fun j t ht => ?_⟩
  rw [Tryz.params5] at ht
  have hm : t ∈ [9, 9, 5] := Array.mem_toList_iff.2 (Array.mem_of_getElem? ht)
  simp only [List.mem_cons, List.not_mem_nil, or_false] at hm
  rcases hm with rfl | rfl | rfl
  · exact (show Tryz.prog.wantsStandIn 9 = false by kernel_rfl)
  · exact (show Tryz.prog.wantsStandIn 9 = false by kernel_rfl)
  · exact (show Tryz.prog.wantsStandIn 5 = false by kernel_rfl)
theorem power_card : Rows.SpreadPowerCardSaid :=
  Claim7.holds_tied_plain_at .later [] _ _ _ _ power_holds (fun _ h => by cases h) (by kernel_rfl) (fun _ h => by cases h) spreadPower_row_tie rfl ⟨rfl, rfl⟩ (by kernel_rfl) rfl power_plain (by kernel_rfl)
end Go.Proofs.T
namespace Go.Proofs.YtpcnfokdhiknhaaGreatDoor
/-- The law's statement. -/
theorem power_said : Rows.SpreadPowerCardSaid := Go.Proofs.T.power_card
end Go.Proofs.YtpcnfokdhiknhaaGreatDoor

/-
  The law ShelfLies answers true for every input, and its arguments read afterwards as before; no condition is asked.
-/
import Derived.Test.YtjmjlncnadmajaaSc
set_option linter.unusedSimpArgs false
set_option linter.unusedVariables false

namespace Go.Proofs.T
open Go Go.Hb

theorem wo_len (l : List Ob) (name : ByteArray) (w : Bool) (x : Ob) : (wo l name w x).length ≤ 2 * l.length + 1 := by
  unfold wo
  have h1 := List.length_filter_le (fun o => ltb o.name name) l
  have h2 := List.length_filter_le (fun o => ltb name o.name) l
  cases w <;> simp <;> omega
theorem fate0 (objs : List Ob) : fateOf ⟨objs, []⟩ = 0 := rfl
/-- Whatever a shelf's fates are, once they are over it is honest. -/
theorem lies3 (s : Sh) (name data : ByteArray) : Pure Try.prog 3 [sAV s, .s name, .s data] (fun r => r = .b true) := by
  refine Pure.weak (Post := fun r => AVle r (.b true)) (Pure.of (XCall.bodyq is3 rfl ?_)) fun r h => ⟨_, rfl, h⟩
  unfold m3
  repeat (first | (refine Sq.nx ?_; try dsimp only [St.put, rn, rns, rid, rnH, rnB, dead, AV.cells, setAt, enumEnv, List.length_nil, List.length_cons, List.getElem?_nil, List.getElem?_cons_zero, List.getElem?_cons_succ, Nat.reduceAdd, Nat.reduceSub, Nat.add_zero]) | refine Bq.nx ?_ | refine Bq.hit rfl ?_ | refine Bq.miss rfl ?_ | refine Sq.ex ?_ | refine Sq.rt ?_ | refine Bq.rt ?_ | refine Lq.ex ?_ | refine Lq.rt ?_ | with_reducible refine seq.mk ?_ | with_reducible refine blk.mk ?_ )
  refine XCall.len (Exists.intro _ (And.intro (great8 s) (And.intro rfl ?_)))
  rintro r ⟨e, rfl, he⟩
  refine And.intro rfl ?_
  refine brk.mk (fun h => ?_) (fun h1 => ?_)
  · repeat (first | (refine Sq.nx ?_; try dsimp only [St.put, rn, rns, rid, rnH, rnB, dead, AV.cells, setAt, enumEnv, List.length_nil, List.length_cons, List.getElem?_nil, List.getElem?_cons_zero, List.getElem?_cons_succ, Nat.reduceAdd, Nat.reduceSub, Nat.add_zero]) | refine Bq.nx ?_ | refine Bq.hit rfl ?_ | refine Bq.miss rfl ?_ | refine Sq.ex ?_ | refine Sq.rt ?_ | refine Bq.rt ?_ | refine Lq.ex ?_ | refine Lq.rt ?_ | with_reducible refine seq.mk ?_ | with_reducible refine blk.mk ?_ )
    refine XCall.lenv awake11 rfl ?_
    refine And.intro rfl (And.intro (AVles.refl _) ?_)
    repeat (first | (refine Sq.nx ?_; try dsimp only [St.put, rn, rns, rid, rnH, rnB, dead, AV.cells, setAt, enumEnv, List.length_nil, List.length_cons, List.getElem?_nil, List.getElem?_cons_zero, List.getElem?_cons_succ, Nat.reduceAdd, Nat.reduceSub, Nat.add_zero]) | refine Bq.nx ?_ | refine Bq.hit rfl ?_ | refine Bq.miss rfl ?_ | refine Sq.ex ?_ | refine Sq.rt ?_ | refine Bq.rt ?_ | refine Lq.ex ?_ | refine Lq.rt ?_ | with_reducible refine seq.mk ?_ | with_reducible refine blk.mk ?_ )
    refine Rq.rt ?_
    exact And.intro rfl (AVle.refl _)
  have hsm := he (of_decide_eq_false h1)
  have hl : Small s := ⟨by have := hsm.1.1; omega, by have := hsm.1.2; omega⟩
  refine brk.mk (fun h => ?_) (fun h2 => ?_)
  · repeat (first | (refine Sq.nx ?_; try dsimp only [St.put, rn, rns, rid, rnH, rnB, dead, AV.cells, setAt, enumEnv, List.length_nil, List.length_cons, List.getElem?_nil, List.getElem?_cons_zero, List.getElem?_cons_succ, Nat.reduceAdd, Nat.reduceSub, Nat.add_zero]) | refine Bq.nx ?_ | refine Bq.hit rfl ?_ | refine Bq.miss rfl ?_ | refine Sq.ex ?_ | refine Sq.rt ?_ | refine Bq.rt ?_ | refine Lq.ex ?_ | refine Lq.rt ?_ | with_reducible refine seq.mk ?_ | with_reducible refine blk.mk ?_ )
    refine XCall.lenv awake11 rfl ?_
    refine And.intro rfl (And.intro (AVles.refl _) ?_)
    repeat (first | (refine Sq.nx ?_; try dsimp only [St.put, rn, rns, rid, rnH, rnB, dead, AV.cells, setAt, enumEnv, List.length_nil, List.length_cons, List.getElem?_nil, List.getElem?_cons_zero, List.getElem?_cons_succ, Nat.reduceAdd, Nat.reduceSub, Nat.add_zero]) | refine Bq.nx ?_ | refine Bq.hit rfl ?_ | refine Bq.miss rfl ?_ | refine Sq.ex ?_ | refine Sq.rt ?_ | refine Bq.rt ?_ | refine Lq.ex ?_ | refine Lq.rt ?_ | with_reducible refine seq.mk ?_ | with_reducible refine blk.mk ?_ )
    refine Rq.rt ?_
    exact And.intro rfl (AVle.refl _)
  have hd : ¬ 500 < (data.size : Int) := of_decide_eq_false h2
  have hdd : data.size ≤ 65536 := by omega
  refine XCall.lenv (check9 s hl.1) rfl ?_
  refine And.intro rfl (And.intro (AVles.refl _) ?_)
  refine brk.mk (fun h => ?_) (fun h3 => ?_)
  · repeat (first | (refine Sq.nx ?_; try dsimp only [St.put, rn, rns, rid, rnH, rnB, dead, AV.cells, setAt, enumEnv, List.length_nil, List.length_cons, List.getElem?_nil, List.getElem?_cons_zero, List.getElem?_cons_succ, Nat.reduceAdd, Nat.reduceSub, Nat.add_zero]) | refine Bq.nx ?_ | refine Bq.hit rfl ?_ | refine Bq.miss rfl ?_ | refine Sq.ex ?_ | refine Sq.rt ?_ | refine Bq.rt ?_ | refine Lq.ex ?_ | refine Lq.rt ?_ | with_reducible refine seq.mk ?_ | with_reducible refine blk.mk ?_ )
    refine XCall.lenv awake11 rfl ?_
    refine And.intro rfl (And.intro (AVles.refl _) ?_)
    repeat (first | (refine Sq.nx ?_; try dsimp only [St.put, rn, rns, rid, rnH, rnB, dead, AV.cells, setAt, enumEnv, List.length_nil, List.length_cons, List.getElem?_nil, List.getElem?_cons_zero, List.getElem?_cons_succ, Nat.reduceAdd, Nat.reduceSub, Nat.add_zero]) | refine Bq.nx ?_ | refine Bq.hit rfl ?_ | refine Bq.miss rfl ?_ | refine Sq.ex ?_ | refine Sq.rt ?_ | refine Bq.rt ?_ | refine Lq.ex ?_ | refine Lq.rt ?_ | with_reducible refine seq.mk ?_ | with_reducible refine blk.mk ?_ )
    refine Rq.rt ?_
    exact And.intro rfl (AVle.refl _)
  have hF : Fit s.objs := fit_iff.1 (bne_f h3)
  refine XCall.lenv (name_spec name) rfl ?_
  refine And.intro rfl (And.intro (AVles.refl _) ?_)
  repeat (first | (refine Sq.nx ?_; try dsimp only [St.put, rn, rns, rid, rnH, rnB, dead, AV.cells, setAt, enumEnv, List.length_nil, List.length_cons, List.getElem?_nil, List.getElem?_cons_zero, List.getElem?_cons_succ, Nat.reduceAdd, Nat.reduceSub, Nat.add_zero]) | refine Bq.nx ?_ | refine Bq.hit rfl ?_ | refine Bq.miss rfl ?_ | refine Sq.ex ?_ | refine Sq.rt ?_ | refine Bq.rt ?_ | refine Lq.ex ?_ | refine Lq.rt ?_ | with_reducible refine seq.mk ?_ | with_reducible refine blk.mk ?_ )
  refine brk.mk (fun h => ?_) (fun h4 => ?_)
  · repeat (first | (refine Sq.nx ?_; try dsimp only [St.put, rn, rns, rid, rnH, rnB, dead, AV.cells, setAt, enumEnv, List.length_nil, List.length_cons, List.getElem?_nil, List.getElem?_cons_zero, List.getElem?_cons_succ, Nat.reduceAdd, Nat.reduceSub, Nat.add_zero]) | refine Bq.nx ?_ | refine Bq.hit rfl ?_ | refine Bq.miss rfl ?_ | refine Sq.ex ?_ | refine Sq.rt ?_ | refine Bq.rt ?_ | refine Lq.ex ?_ | refine Lq.rt ?_ | with_reducible refine seq.mk ?_ | with_reducible refine blk.mk ?_ )
    refine XCall.lenv awake11 rfl ?_
    refine And.intro rfl (And.intro (AVles.refl _) ?_)
    repeat (first | (refine Sq.nx ?_; try dsimp only [St.put, rn, rns, rid, rnH, rnB, dead, AV.cells, setAt, enumEnv, List.length_nil, List.length_cons, List.getElem?_nil, List.getElem?_cons_zero, List.getElem?_cons_succ, Nat.reduceAdd, Nat.reduceSub, Nat.add_zero]) | refine Bq.nx ?_ | refine Bq.hit rfl ?_ | refine Bq.miss rfl ?_ | refine Sq.ex ?_ | refine Sq.rt ?_ | refine Bq.rt ?_ | refine Lq.ex ?_ | refine Lq.rt ?_ | with_reducible refine seq.mk ?_ | with_reducible refine blk.mk ?_ )
    refine Rq.rt ?_
    exact And.intro rfl (AVle.refl _)
  have hN := is_named h4
  have hb2 := hl.2
  repeat (first | (refine Sq.nx ?_; try dsimp only [St.put, rn, rns, rid, rnH, rnB, dead, AV.cells, setAt, enumEnv, List.length_nil, List.length_cons, List.getElem?_nil, List.getElem?_cons_zero, List.getElem?_cons_succ, Nat.reduceAdd, Nat.reduceSub, Nat.add_zero]) | refine Bq.nx ?_ | refine Bq.hit rfl ?_ | refine Bq.miss rfl ?_ | refine Sq.ex ?_ | refine Sq.rt ?_ | refine Bq.rt ?_ | refine Lq.ex ?_ | refine Lq.rt ?_ | with_reducible refine seq.mk ?_ | with_reducible refine blk.mk ?_ )
  refine lp.mk (fun σ => ∃ i : Nat, i ≤ s.fates.length ∧
    σ = ⟨[(1, .s name), (2, .s data), (3, .p 0 0), (7, .i .i64 (s.fates.length : Int)), (8, .i .i64 (i : Int))],
      [(0, .lit [oAV s.objs, fAV (s.fates.drop i)])], 1⟩) (fun σ => (s.fates.length - num 8 σ).toNat) ?_ ?_
  · refine ⟨_, Le.mk ?_ ?_ rfl rfl, 0, Nat.zero_le _, rfl⟩
    · exact ⟨rfl, rfl, rfl, rfl, rfl, trivial⟩
    · exact ⟨rfl, trivial⟩
  rintro σ' ⟨i, hi, rfl⟩
  repeat (first | (refine Sq.nx ?_; try dsimp only [St.put, rn, rns, rid, rnH, rnB, dead, AV.cells, setAt, enumEnv, List.length_nil, List.length_cons, List.getElem?_nil, List.getElem?_cons_zero, List.getElem?_cons_succ, Nat.reduceAdd, Nat.reduceSub, Nat.add_zero]) | refine Bq.nx ?_ | refine Bq.hit rfl ?_ | refine Bq.miss rfl ?_ | refine Sq.ex ?_ | refine Sq.rt ?_ | refine Bq.rt ?_ | refine Lq.ex ?_ | refine Lq.rt ?_ | with_reducible refine seq.mk ?_ | with_reducible refine blk.mk ?_ )
  refine brk.mk (fun hc => ?_) (fun hc => ?_)
  · have hlt : i < s.fates.length := by have := of_decide_eq_true hc; omega
    have hwrap : IntKind.i64.wrap ((i : Int) + 1) = ((i + 1 : Nat) : Int) := by rw [wrap_int (by omega) (by omega)]; omega
    repeat (first | (refine Sq.nx ?_; try dsimp only [St.put, rn, rns, rid, rnH, rnB, dead, AV.cells, setAt, enumEnv, List.length_nil, List.length_cons, List.getElem?_nil, List.getElem?_cons_zero, List.getElem?_cons_succ, Nat.reduceAdd, Nat.reduceSub, Nat.add_zero]) | refine Bq.nx ?_ | refine Bq.hit rfl ?_ | refine Bq.miss rfl ?_ | refine Sq.ex ?_ | refine Sq.rt ?_ | refine Bq.rt ?_ | refine Lq.ex ?_ | refine Lq.rt ?_ | with_reducible refine seq.mk ?_ | with_reducible refine blk.mk ?_ )
    refine XCall.givv (get12 ⟨s.objs, s.fates.drop i⟩ name ⟨hl.1, by simp; omega⟩) ?_
    refine And.intro rfl (And.intro (AVles.refl _) ?_)
    have e := get_fit (s := ⟨s.objs, s.fates.drop i⟩) hF hN
    revert e
    generalize get ⟨s.objs, s.fates.drop i⟩ name = g
    obtain ⟨g1, g2, g3⟩ := g
    rintro e
    dsimp only at e
    subst e
    repeat (first | (refine Sq.nx ?_; try dsimp only [St.put, rn, rns, rid, rnH, rnB, dead, AV.cells, setAt, enumEnv, List.length_nil, List.length_cons, List.getElem?_nil, List.getElem?_cons_zero, List.getElem?_cons_succ, Nat.reduceAdd, Nat.reduceSub, Nat.add_zero]) | refine Bq.nx ?_ | refine Bq.hit rfl ?_ | refine Bq.miss rfl ?_ | refine Sq.ex ?_ | refine Sq.rt ?_ | refine Bq.rt ?_ | refine Lq.ex ?_ | refine Lq.rt ?_ | with_reducible refine seq.mk ?_ | with_reducible refine blk.mk ?_ )
    refine Lq.nx _ (Le.mk ?_ ?_ rfl rfl) ⟨i + 1, hlt, rfl⟩ ?_
    · exact ⟨rfl, rfl, rfl, rfl, congrArg (AV.i .i64) hwrap, trivial⟩
    · refine ⟨?_, trivial⟩
      show [oAV s.objs, fAV (s.fates.drop i).tail] = [oAV s.objs, fAV (s.fates.drop (i + 1))]
      rw [List.tail_drop]
    · show (_ - ((i + 1 : Nat) : Int)).toNat < (_ - (i : Int)).toNat
      omega
  · have hin : i = s.fates.length := by have := of_decide_eq_false hc; omega
    subst hin
    rw [List.drop_length]
    repeat (first | (refine Sq.nx ?_; try dsimp only [St.put, rn, rns, rid, rnH, rnB, dead, AV.cells, setAt, enumEnv, List.length_nil, List.length_cons, List.getElem?_nil, List.getElem?_cons_zero, List.getElem?_cons_succ, Nat.reduceAdd, Nat.reduceSub, Nat.add_zero]) | refine Bq.nx ?_ | refine Bq.hit rfl ?_ | refine Bq.miss rfl ?_ | refine Sq.ex ?_ | refine Sq.rt ?_ | refine Bq.rt ?_ | refine Lq.ex ?_ | refine Lq.rt ?_ | with_reducible refine seq.mk ?_ | with_reducible refine blk.mk ?_ )
    have p1 := put13 ⟨s.objs, []⟩ name data ⟨hl.1, Nat.zero_le _⟩ (by omega)
    rw [put_ok (s := ⟨s.objs, []⟩) hF hN hdd (fate0 _)] at p1
    refine XCall.givv p1 ?_
    refine And.intro rfl (And.intro (AVles.refl _) ?_)
    repeat (first | (refine Sq.nx ?_; try dsimp only [St.put, rn, rns, rid, rnH, rnB, dead, AV.cells, setAt, enumEnv, List.length_nil, List.length_cons, List.getElem?_nil, List.getElem?_cons_zero, List.getElem?_cons_succ, Nat.reduceAdd, Nat.reduceSub, Nat.add_zero]) | refine Bq.nx ?_ | refine Bq.hit rfl ?_ | refine Bq.miss rfl ?_ | refine Sq.ex ?_ | refine Sq.rt ?_ | refine Bq.rt ?_ | refine Lq.ex ?_ | refine Lq.rt ?_ | with_reducible refine seq.mk ?_ | with_reducible refine blk.mk ?_ )
    have hF2 : Fit (upd s.objs name data) := upd_fit hF hN hdd
    have hl2 : (upd s.objs name data).length ≤ 1099511627776 := by
      have := hsm.1.1
      rw [upd_wo hF]
      have := wo_len s.objs name true ⟨name, data, (under s.objs name).data, (findR s.objs name).isSome⟩
      omega
    have p2 := names14 ⟨upd s.objs name data, []⟩ name ⟨hl2, Nat.zero_le _⟩
    obtain ⟨t, ht⟩ := names_head (l := s.objs) (name := name) (x := ⟨name, data, (under s.objs name).data, (findR s.objs name).isSome⟩) rfl
    have n2 : namesOf ⟨upd s.objs name data, []⟩ name = (⟨upd s.objs name data, []⟩, name :: t, 0) := by
      unfold namesOf
      rw [if_neg (fun hc => hc (fit_iff.2 hF2)), if_neg (by rw [fate0]; decide), if_neg (by rw [fate0]; decide), fate0, upd_wo hF, ht]
      rfl
    rw [n2] at p2
    refine XCall.givv p2 ?_
    refine And.intro rfl (And.intro (AVles.refl _) ?_)
    repeat (first | (refine Sq.nx ?_; try dsimp only [St.put, rn, rns, rid, rnH, rnB, dead, AV.cells, setAt, enumEnv, List.length_nil, List.length_cons, List.getElem?_nil, List.getElem?_cons_zero, List.getElem?_cons_succ, Nat.reduceAdd, Nat.reduceSub, Nat.add_zero]) | refine Bq.nx ?_ | refine Bq.hit rfl ?_ | refine Bq.miss rfl ?_ | refine Sq.ex ?_ | refine Sq.rt ?_ | refine Bq.rt ?_ | refine Lq.ex ?_ | refine Lq.rt ?_ | with_reducible refine seq.mk ?_ | with_reducible refine blk.mk ?_ )
    have p3 := get12 ⟨upd s.objs name data, []⟩ name ⟨hl2, Nat.zero_le _⟩
    have e1 := get_fit (s := ⟨upd s.objs name data, []⟩) hF2 hN
    have e2 := get_honest (s := ⟨upd s.objs name data, []⟩) hF2 hN (fate0 _)
    have e3 : findR (upd s.objs name data) name = some ⟨name, data, (under s.objs name).data, (findR s.objs name).isSome⟩ := by rw [upd_wo hF]; exact wo_same (name := name) rfl
    rw [e3] at e2
    have e4 : get ⟨upd s.objs name data, []⟩ name = (⟨upd s.objs name data, []⟩, data, 0) := by
      rw [← Prod.eta (get _ name), e1, e2]
      rfl
    rw [e4] at p3
    refine XCall.givv p3 ?_
    refine And.intro rfl (And.intro (AVles.refl _) ?_)
    repeat (first | (refine Sq.nx ?_; try dsimp only [St.put, rn, rns, rid, rnH, rnB, dead, AV.cells, setAt, enumEnv, List.length_nil, List.length_cons, List.getElem?_nil, List.getElem?_cons_zero, List.getElem?_cons_succ, Nat.reduceAdd, Nat.reduceSub, Nat.add_zero]) | refine Bq.nx ?_ | refine Bq.hit rfl ?_ | refine Bq.miss rfl ?_ | refine Sq.ex ?_ | refine Sq.rt ?_ | refine Bq.rt ?_ | refine Lq.ex ?_ | refine Lq.rt ?_ | with_reducible refine seq.mk ?_ | with_reducible refine blk.mk ?_ )
    have no : ((0 : Int) == 0) = false → False := fun h => by cases h
    refine brk.mk (fun _ => ?_) (fun h => (no h).elim)
    refine brk.mk (fun _ => ?_) (fun h => (no h).elim)
    refine brk.mk (fun _ => ?_) (fun h => (no h).elim)
    refine brk.mk (fun _ => ?_) (fun h => ?_)
    case' refine_2 =>
      exfalso
      have := of_decide_eq_false h
      simp at this
    refine Exists.intro 0 ?_
    refine And.intro rfl ?_
    refine And.intro (Nat.succ_pos _) ?_
    refine brk.mk (fun _ => ?_) (fun h => ?_)
    case' refine_2 =>
      exfalso
      have h' : (name.toList == name.toList) = false := h
      simp at h'
    refine brk.mk (fun _ => ?_) (fun h => (no h).elim)
    refine brk.mk (fun _ => ?_) (fun h => by have h' : (data.toList == data.toList) = false := h; simp at h')
    refine XCall.lenv awake11 rfl ?_
    refine And.intro rfl (And.intro (AVles.refl _) ?_)
    repeat (first | (refine Sq.nx ?_; try dsimp only [St.put, rn, rns, rid, rnH, rnB, dead, AV.cells, setAt, enumEnv, List.length_nil, List.length_cons, List.getElem?_nil, List.getElem?_cons_zero, List.getElem?_cons_succ, Nat.reduceAdd, Nat.reduceSub, Nat.add_zero]) | refine Bq.nx ?_ | refine Bq.hit rfl ?_ | refine Bq.miss rfl ?_ | refine Sq.ex ?_ | refine Sq.rt ?_ | refine Bq.rt ?_ | refine Lq.ex ?_ | refine Lq.rt ?_ | with_reducible refine seq.mk ?_ | with_reducible refine blk.mk ?_ )
    refine Rq.rt ?_
    exact And.intro rfl (AVle.refl _)
end Go.Proofs.T

namespace Go.Proofs.T
open Go Go.Hb Go.ChangeShapes Go.WideShapes Go.ChangeAt Go.RowKit Go.Joins Go.Proofs.Ytjmjlncnadmajaa

set_option maxRecDepth 100000 in
theorem lies_lifted (os : Os) (started : os.Started) (H : Type) (enc : TypeId × Value → H) :
    ReturnsInHanded {} Try.checked os 3 .any (Rows.shelfLiesSpec.pre6 enc Try.prog Try.f3 Rows.shelfLiesRow.domain false) (Rows.shelfLiesSpec.post enc Try.prog Try.f3 false true false false) := by
  refine returnsInHanded_of_change (C := Try.checked) own started (by kernel_rfl) Try.func3
    (ChangeSpec.witness6 (enc := enc) (C := Try.checked) false ⟨#[], #[.agg #[.slice none 0 0, .slice none 0 0], .string .empty, .string .empty], []⟩ 8 (by kernel_rfl) (by kernel_rfl) (by kernel_rfl) (by kernel_rfl)) ?_
  intro W base args ds gs before hval hW _ _
  have hW' := hW
  obtain ⟨p, q, hA0, hV, rfl, hfz, hnd⟩ := hW
  have hA : DataW.TrodAll enc Try.prog W 0 (fun _ => true) true Try.f3.params.toList args.toList ds p := hA0
  rw [Try.params3] at hA hval
  obtain ⟨v0, vs0, d0, ds0, p0, q0, hargs, rfl, rfl, h0, r0⟩ := trodAll_cons hA
  obtain ⟨v1, vs1, d1, ds1, p1, q1, rfl, rfl, rfl, h1, r1⟩ := trodAll_cons r0
  obtain ⟨v2, vs2, d2, ds2, p2, q2, rfl, rfl, rfl, h2, r2⟩ := trodAll_cons r1
  obtain ⟨rfl, rfl, rfl⟩ := trodAll_nil r2
  obtain rfl : args = #[v0, v1, v2] := by cases args; simp_all
  obtain ⟨s, e0⟩ := open_shelf (hval 0 25 v0 rfl rfl) h0
  obtain ⟨name, e1⟩ := open_str (hval 1 9 v1 rfl rfl) h1
  obtain ⟨data, e2⟩ := open_str (hval 2 9 v2 rfl rfl) h2
  refine law_calls (tb := 4) is3 laidOut ?_ (by kernel_rfl) Try.underlying4 rfl ?_ hW' (av := [sAV s, .s name, .s data]) ?_ (lies3 s name data)
  · rw [Try.params3]
    intro t ht
    simp only [List.mem_cons, List.not_mem_nil, or_false] at ht
    rcases ht with rfl | rfl | rfl
    · exact ⟨by kernel_rfl, of_decide_eq_true (by kernel_rfl)⟩
    · exact ⟨by kernel_rfl, of_decide_eq_true (by kernel_rfl)⟩
    · exact ⟨by kernel_rfl, of_decide_eq_true (by kernel_rfl)⟩
  · intro ds hl
    rw [Try.params3] at hl
    match ds, hl with
    | [a, b, c], _ => exact ⟨rfl, rfl, rfl⟩
  · simp only [RelVs]
    exact ⟨e0, e1, e2, trivial⟩

theorem lies_holds : Rows.ShelfLiesSaid :=
  OpenClaim.holds_of_wide 3 Try.f3 rfl rfl rfl rfl rfl rfl rfl ⟨rfl, rfl, rfl, rfl, rfl⟩ rfl rfl rfl rfl rfl (by kernel_rfl) Try.func3 (by kernel_rfl)
    (of_decide_eq_true (by kernel_rfl)) (by unfold Func.isWrapper; first | (rw [if_pos (by decide +kernel)]; kernel_rfl) | (rw [if_neg (by decide +kernel)]; exact ⟨rfl, rfl⟩))
    (fun os started H enc _ => lies_lifted os started H enc)
end Go.Proofs.T
namespace Go.Proofs.Ytjmjlncnadmajaa
/-- The law's statement. -/
theorem lies_said : Rows.ShelfLiesSaid := Go.Proofs.T.lies_holds
end Go.Proofs.Ytjmjlncnadmajaa

/-
  Parts of the proof: no statement of the seat is proved here.
-/
import Derived.Test.YtjmjlncnadmajaaSc
set_option linter.unusedSimpArgs false
set_option linter.unusedVariables false

namespace Go.Proofs.T
open Go Go.Hb

theorem wo_len (l : List Ob) (name : ByteArray) (w : Bool) (x : Ob) : (wo l name w x).length ≤ 2 * l.length + 1 := by
  unfold wo
  have h1 := List.length_filter_le (fun o => ltb o.name name) l
  have h2 := List.length_filter_le (fun o => ltb name o.name) l
  cases w <;> simp <;> omega
theorem fate0 (objs : List Ob) : fateOf ⟨objs, []⟩ = 0 := rfl
/-- Whatever a shelf's fates are, once they are over it is honest. -/
theorem lies3 (s : Sh) (name data : ByteArray) : Pure Try.prog 3 [sAV s, .s name, .s data] (fun r => r = .b true) := by
  refine Pure.weak (Post := fun r => AVle r (.b true)) (Pure.of (XCall.bodyq is3 rfl ?_)) fun r h => ⟨_, rfl, h⟩
  unfold m3
  repeat (first | (refine Sq.nx ?_; try dsimp only [St.put, rn, rns, rid, rnH, rnB, dead, AV.cells, setAt, enumEnv, List.length_nil, List.length_cons, List.getElem?_nil, List.getElem?_cons_zero, List.getElem?_cons_succ, Nat.reduceAdd, Nat.reduceSub, Nat.add_zero]) | refine Bq.nx ?_ | refine Bq.hit rfl ?_ | refine Bq.miss rfl ?_ | refine Sq.ex ?_ | refine Sq.rt ?_ | refine Bq.rt ?_ | refine Lq.ex ?_ | refine Lq.rt ?_ | with_reducible refine seq.mk ?_ | with_reducible refine blk.mk ?_ )
  refine XCall.len (Exists.intro _ (And.intro (great8 s) (And.intro rfl ?_)))
  rintro r ⟨e, rfl, he⟩
  refine And.intro rfl ?_
  refine brk.mk (fun h => ?_) (fun h1 => ?_)
  · repeat (first | (refine Sq.nx ?_; try dsimp only [St.put, rn, rns, rid, rnH, rnB, dead, AV.cells, setAt, enumEnv, List.length_nil, List.length_cons, List.getElem?_nil, List.getElem?_cons_zero, List.getElem?_cons_succ, Nat.reduceAdd, Nat.reduceSub, Nat.add_zero]) | refine Bq.nx ?_ | refine Bq.hit rfl ?_ | refine Bq.miss rfl ?_ | refine Sq.ex ?_ | refine Sq.rt ?_ | refine Bq.rt ?_ | refine Lq.ex ?_ | refine Lq.rt ?_ | with_reducible refine seq.mk ?_ | with_reducible refine blk.mk ?_ )
    refine XCall.lenv awake11 rfl ?_
    refine And.intro rfl (And.intro (AVles.refl _) ?_)
    repeat (first | (refine Sq.nx ?_; try dsimp only [St.put, rn, rns, rid, rnH, rnB, dead, AV.cells, setAt, enumEnv, List.length_nil, List.length_cons, List.getElem?_nil, List.getElem?_cons_zero, List.getElem?_cons_succ, Nat.reduceAdd, Nat.reduceSub, Nat.add_zero]) | refine Bq.nx ?_ | refine Bq.hit rfl ?_ | refine Bq.miss rfl ?_ | refine Sq.ex ?_ | refine Sq.rt ?_ | refine Bq.rt ?_ | refine Lq.ex ?_ | refine Lq.rt ?_ | with_reducible refine seq.mk ?_ | with_reducible refine blk.mk ?_ )
    refine Rq.rt ?_
    exact And.intro rfl (AVle.refl _)
  have hsm := he (of_decide_eq_false h1)
  have hl : Small s := ⟨by have := hsm.1.1; omega, by have := hsm.1.2; omega⟩
  refine brk.mk (fun h => ?_) (fun h2 => ?_)
  · repeat (first | (refine Sq.nx ?_; try dsimp only [St.put, rn, rns, rid, rnH, rnB, dead, AV.cells, setAt, enumEnv, List.length_nil, List.length_cons, List.getElem?_nil, List.getElem?_cons_zero, List.getElem?_cons_succ, Nat.reduceAdd, Nat.reduceSub, Nat.add_zero]) | refine Bq.nx ?_ | refine Bq.hit rfl ?_ | refine Bq.miss rfl ?_ | refine Sq.ex ?_ | refine Sq.rt ?_ | refine Bq.rt ?_ | refine Lq.ex ?_ | refine Lq.rt ?_ | with_reducible refine seq.mk ?_ | with_reducible refine blk.mk ?_ )
    refine XCall.lenv awake11 rfl ?_
    refine And.intro rfl (And.intro (AVles.refl _) ?_)
    repeat (first | (refine Sq.nx ?_; try dsimp only [St.put, rn, rns, rid, rnH, rnB, dead, AV.cells, setAt, enumEnv, List.length_nil, List.length_cons, List.getElem?_nil, List.getElem?_cons_zero, List.getElem?_cons_succ, Nat.reduceAdd, Nat.reduceSub, Nat.add_zero]) | refine Bq.nx ?_ | refine Bq.hit rfl ?_ | refine Bq.miss rfl ?_ | refine Sq.ex ?_ | refine Sq.rt ?_ | refine Bq.rt ?_ | refine Lq.ex ?_ | refine Lq.rt ?_ | with_reducible refine seq.mk ?_ | with_reducible refine blk.mk ?_ )
    refine Rq.rt ?_
    exact And.intro rfl (AVle.refl _)
  have hd : ¬ 500 < (data.size : Int) := of_decide_eq_false h2
  have hdd : data.size ≤ 65536 := by omega
  refine XCall.lenv (check9 s hl.1) rfl ?_
  refine And.intro rfl (And.intro (AVles.refl _) ?_)
  refine brk.mk (fun h => ?_) (fun h3 => ?_)
  · repeat (first | (refine Sq.nx ?_; try dsimp only [St.put, rn, rns, rid, rnH, rnB, dead, AV.cells, setAt, enumEnv, List.length_nil, List.length_cons, List.getElem?_nil, List.getElem?_cons_zero, List.getElem?_cons_succ, Nat.reduceAdd, Nat.reduceSub, Nat.add_zero]) | refine Bq.nx ?_ | refine Bq.hit rfl ?_ | refine Bq.miss rfl ?_ | refine Sq.ex ?_ | refine Sq.rt ?_ | refine Bq.rt ?_ | refine Lq.ex ?_ | refine Lq.rt ?_ | with_reducible refine seq.mk ?_ | with_reducible refine blk.mk ?_ )
    refine XCall.lenv awake11 rfl ?_
    refine And.intro rfl (And.intro (AVles.refl _) ?_)
    repeat (first | (refine Sq.nx ?_; try dsimp only [St.put, rn, rns, rid, rnH, rnB, dead, AV.cells, setAt, enumEnv, List.length_nil, List.length_cons, List.getElem?_nil, List.getElem?_cons_zero, List.getElem?_cons_succ, Nat.reduceAdd, Nat.reduceSub, Nat.add_zero]) | refine Bq.nx ?_ | refine Bq.hit rfl ?_ | refine Bq.miss rfl ?_ | refine Sq.ex ?_ | refine Sq.rt ?_ | refine Bq.rt ?_ | refine Lq.ex ?_ | refine Lq.rt ?_ | with_reducible refine seq.mk ?_ | with_reducible refine blk.mk ?_ )
    refine Rq.rt ?_
    exact And.intro rfl (AVle.refl _)
  have hF : Fit s.objs := fit_iff.1 (bne_f h3)
  refine XCall.lenv (name_spec name) rfl ?_
  refine And.intro rfl (And.intro (AVles.refl _) ?_)
  repeat (first | (refine Sq.nx ?_; try dsimp only [St.put, rn, rns, rid, rnH, rnB, dead, AV.cells, setAt, enumEnv, List.length_nil, List.length_cons, List.getElem?_nil, List.getElem?_cons_zero, List.getElem?_cons_succ, Nat.reduceAdd, Nat.reduceSub, Nat.add_zero]) | refine Bq.nx ?_ | refine Bq.hit rfl ?_ | refine Bq.miss rfl ?_ | refine Sq.ex ?_ | refine Sq.rt ?_ | refine Bq.rt ?_ | refine Lq.ex ?_ | refine Lq.rt ?_ | with_reducible refine seq.mk ?_ | with_reducible refine blk.mk ?_ )
  refine brk.mk (fun h => ?_) (fun h4 => ?_)
  · repeat (first | (refine Sq.nx ?_; try dsimp only [St.put, rn, rns, rid, rnH, rnB, dead, AV.cells, setAt, enumEnv, List.length_nil, List.length_cons, List.getElem?_nil, List.getElem?_cons_zero, List.getElem?_cons_succ, Nat.reduceAdd, Nat.reduceSub, Nat.add_zero]) | refine Bq.nx ?_ | refine Bq.hit rfl ?_ | refine Bq.miss rfl ?_ | refine Sq.ex ?_ | refine Sq.rt ?_ | refine Bq.rt ?_ | refine Lq.ex ?_ | refine Lq.rt ?_ | with_reducible refine seq.mk ?_ | with_reducible refine blk.mk ?_ )
    refine XCall.lenv awake11 rfl ?_
    refine And.intro rfl (And.intro (AVles.refl _) ?_)
    repeat (first | (refine Sq.nx ?_; try dsimp only [St.put, rn, rns, rid, rnH, rnB, dead, AV.cells, setAt, enumEnv, List.length_nil, List.length_cons, List.getElem?_nil, List.getElem?_cons_zero, List.getElem?_cons_succ, Nat.reduceAdd, Nat.reduceSub, Nat.add_zero]) | refine Bq.nx ?_ | refine Bq.hit rfl ?_ | refine Bq.miss rfl ?_ | refine Sq.ex ?_ | refine Sq.rt ?_ | refine Bq.rt ?_ | refine Lq.ex ?_ | refine Lq.rt ?_ | with_reducible refine seq.mk ?_ | with_reducible refine blk.mk ?_ )
    refine Rq.rt ?_
    exact And.intro rfl (AVle.refl _)
  have hN := is_named h4
  have hb2 := hl.2
  repeat (first | (refine Sq.nx ?_; try dsimp only [St.put, rn, rns, rid, rnH, rnB, dead, AV.cells, setAt, enumEnv, List.length_nil, List.length_cons, List.getElem?_nil, List.getElem?_cons_zero, List.getElem?_cons_succ, Nat.reduceAdd, Nat.reduceSub, Nat.add_zero]) | refine Bq.nx ?_ | refine Bq.hit rfl ?_ | refine Bq.miss rfl ?_ | refine Sq.ex ?_ | refine Sq.rt ?_ | refine Bq.rt ?_ | refine Lq.ex ?_ | refine Lq.rt ?_ | with_reducible refine seq.mk ?_ | with_reducible refine blk.mk ?_ )
  refine lp.mk (fun σ => ∃ i : Nat, i ≤ s.fates.length ∧
    σ = ⟨[(1, .s name), (2, .s data), (3, .p 0 0), (7, .i .i64 (s.fates.length : Int)), (8, .i .i64 (i : Int))],
      [(0, .lit [oAV s.objs, fAV (s.fates.drop i)])], 1⟩) (fun σ => (s.fates.length - num 8 σ).toNat) ?_ ?_
  · refine ⟨_, Le.mk ?_ ?_ rfl rfl, 0, Nat.zero_le _, rfl⟩
    · exact ⟨rfl, rfl, rfl, rfl, rfl, trivial⟩
    · exact ⟨rfl, trivial⟩
  rintro σ' ⟨i, hi, rfl⟩
  repeat (first | (refine Sq.nx ?_; try dsimp only [St.put, rn, rns, rid, rnH, rnB, dead, AV.cells, setAt, enumEnv, List.length_nil, List.length_cons, List.getElem?_nil, List.getElem?_cons_zero, List.getElem?_cons_succ, Nat.reduceAdd, Nat.reduceSub, Nat.add_zero]) | refine Bq.nx ?_ | refine Bq.hit rfl ?_ | refine Bq.miss rfl ?_ | refine Sq.ex ?_ | refine Sq.rt ?_ | refine Bq.rt ?_ | refine Lq.ex ?_ | refine Lq.rt ?_ | with_reducible refine seq.mk ?_ | with_reducible refine blk.mk ?_ )
  refine brk.mk (fun hc => ?_) (fun hc => ?_)
  · have hlt : i < s.fates.length := by have := of_decide_eq_true hc; omega
    have hwrap : IntKind.i64.wrap ((i : Int) + 1) = ((i + 1 : Nat) : Int) := by rw [wrap_int (by omega) (by omega)]; omega
    repeat (first | (refine Sq.nx ?_; try dsimp only [St.put, rn, rns, rid, rnH, rnB, dead, AV.cells, setAt, enumEnv, List.length_nil, List.length_cons, List.getElem?_nil, List.getElem?_cons_zero, List.getElem?_cons_succ, Nat.reduceAdd, Nat.reduceSub, Nat.add_zero]) | refine Bq.nx ?_ | refine Bq.hit rfl ?_ | refine Bq.miss rfl ?_ | refine Sq.ex ?_ | refine Sq.rt ?_ | refine Bq.rt ?_ | refine Lq.ex ?_ | refine Lq.rt ?_ | with_reducible refine seq.mk ?_ | with_reducible refine blk.mk ?_ )
    refine XCall.givv (get12 ⟨s.objs, s.fates.drop i⟩ name ⟨hl.1, by simp; omega⟩) ?_
    refine And.intro rfl (And.intro (AVles.refl _) ?_)
    have e := get_fit (s := ⟨s.objs, s.fates.drop i⟩) hF hN
    revert e
    generalize get ⟨s.objs, s.fates.drop i⟩ name = g
    obtain ⟨g1, g2, g3⟩ := g
    rintro e
    dsimp only at e
    subst e
    repeat (first | (refine Sq.nx ?_; try dsimp only [St.put, rn, rns, rid, rnH, rnB, dead, AV.cells, setAt, enumEnv, List.length_nil, List.length_cons, List.getElem?_nil, List.getElem?_cons_zero, List.getElem?_cons_succ, Nat.reduceAdd, Nat.reduceSub, Nat.add_zero]) | refine Bq.nx ?_ | refine Bq.hit rfl ?_ | refine Bq.miss rfl ?_ | refine Sq.ex ?_ | refine Sq.rt ?_ | refine Bq.rt ?_ | refine Lq.ex ?_ | refine Lq.rt ?_ | with_reducible refine seq.mk ?_ | with_reducible refine blk.mk ?_ )
    refine Lq.nx _ (Le.mk ?_ ?_ rfl rfl) ⟨i + 1, hlt, rfl⟩ ?_
    · exact ⟨rfl, rfl, rfl, rfl, congrArg (AV.i .i64) hwrap, trivial⟩
    · refine ⟨?_, trivial⟩
      show [oAV s.objs, fAV (s.fates.drop i).tail] = [oAV s.objs, fAV (s.fates.drop (i + 1))]
      rw [List.tail_drop]
    · show (_ - ((i + 1 : Nat) : Int)).toNat < (_ - (i : Int)).toNat
      omega
  · have hin : i = s.fates.length := by have := of_decide_eq_false hc; omega
    subst hin
    rw [List.drop_length]
    repeat (first | (refine Sq.nx ?_; try dsimp only [St.put, rn, rns, rid, rnH, rnB, dead, AV.cells, setAt, enumEnv, List.length_nil, List.length_cons, List.getElem?_nil, List.getElem?_cons_zero, List.getElem?_cons_succ, Nat.reduceAdd, Nat.reduceSub, Nat.add_zero]) | refine Bq.nx ?_ | refine Bq.hit rfl ?_ | refine Bq.miss rfl ?_ | refine Sq.ex ?_ | refine Sq.rt ?_ | refine Bq.rt ?_ | refine Lq.ex ?_ | refine Lq.rt ?_ | with_reducible refine seq.mk ?_ | with_reducible refine blk.mk ?_ )
    have p1 := put13 ⟨s.objs, []⟩ name data ⟨hl.1, Nat.zero_le _⟩ (by omega)
    rw [put_ok (s := ⟨s.objs, []⟩) hF hN hdd (fate0 _)] at p1
    refine XCall.givv p1 ?_
    refine And.intro rfl (And.intro (AVles.refl _) ?_)
    repeat (first | (refine Sq.nx ?_; try dsimp only [St.put, rn, rns, rid, rnH, rnB, dead, AV.cells, setAt, enumEnv, List.length_nil, List.length_cons, List.getElem?_nil, List.getElem?_cons_zero, List.getElem?_cons_succ, Nat.reduceAdd, Nat.reduceSub, Nat.add_zero]) | refine Bq.nx ?_ | refine Bq.hit rfl ?_ | refine Bq.miss rfl ?_ | refine Sq.ex ?_ | refine Sq.rt ?_ | refine Bq.rt ?_ | refine Lq.ex ?_ | refine Lq.rt ?_ | with_reducible refine seq.mk ?_ | with_reducible refine blk.mk ?_ )
    have hF2 : Fit (upd s.objs name data) := upd_fit hF hN hdd
    have hl2 : (upd s.objs name data).length ≤ 1099511627776 := by
      have := hsm.1.1
      rw [upd_wo hF]
      have := wo_len s.objs name true ⟨name, data, (under s.objs name).data, (findR s.objs name).isSome⟩
      omega
    have p2 := names14 ⟨upd s.objs name data, []⟩ name ⟨hl2, Nat.zero_le _⟩
    obtain ⟨t, ht⟩ := names_head (l := s.objs) (name := name) (x := ⟨name, data, (under s.objs name).data, (findR s.objs name).isSome⟩) rfl
    have n2 : namesOf ⟨upd s.objs name data, []⟩ name = (⟨upd s.objs name data, []⟩, name :: t, 0) := by
      unfold namesOf
      rw [if_neg (fun hc => hc (fit_iff.2 hF2)), if_neg (by rw [fate0]; decide), if_neg (by rw [fate0]; decide), fate0, upd_wo hF, ht]
      rfl
    rw [n2] at p2
    refine XCall.givv p2 ?_
    refine And.intro rfl (And.intro (AVles.refl _) ?_)
    repeat (first | (refine Sq.nx ?_; try dsimp only [St.put, rn, rns, rid, rnH, rnB, dead, AV.cells, setAt, enumEnv, List.length_nil, List.length_cons, List.getElem?_nil, List.getElem?_cons_zero, List.getElem?_cons_succ, Nat.reduceAdd, Nat.reduceSub, Nat.add_zero]) | refine Bq.nx ?_ | refine Bq.hit rfl ?_ | refine Bq.miss rfl ?_ | refine Sq.ex ?_ | refine Sq.rt ?_ | refine Bq.rt ?_ | refine Lq.ex ?_ | refine Lq.rt ?_ | with_reducible refine seq.mk ?_ | with_reducible refine blk.mk ?_ )
    have p3 := get12 ⟨upd s.objs name data, []⟩ name ⟨hl2, Nat.zero_le _⟩
    have e1 := get_fit (s := ⟨upd s.objs name data, []⟩) hF2 hN
    have e2 := get_honest (s := ⟨upd s.objs name data, []⟩) hF2 hN (fate0 _)
    have e3 : findR (upd s.objs name data) name = some ⟨name, data, (under s.objs name).data, (findR s.objs name).isSome⟩ := by rw [upd_wo hF]; exact wo_same (name := name) rfl
    rw [e3] at e2
    have e4 : get ⟨upd s.objs name data, []⟩ name = (⟨upd s.objs name data, []⟩, data, 0) := by
      rw [← Prod.eta (get _ name), e1, e2]
      rfl
    rw [e4] at p3
    refine XCall.givv p3 ?_
    refine And.intro rfl (And.intro (AVles.refl _) ?_)
    repeat (first | (refine Sq.nx ?_; try dsimp only [St.put, rn, rns, rid, rnH, rnB, dead, AV.cells, setAt, enumEnv, List.length_nil, List.length_cons, List.getElem?_nil, List.getElem?_cons_zero, List.getElem?_cons_succ, Nat.reduceAdd, Nat.reduceSub, Nat.add_zero]) | refine Bq.nx ?_ | refine Bq.hit rfl ?_ | refine Bq.miss rfl ?_ | refine Sq.ex ?_ | refine Sq.rt ?_ | refine Bq.rt ?_ | refine Lq.ex ?_ | refine Lq.rt ?_ | with_reducible refine seq.mk ?_ | with_reducible refine blk.mk ?_ )
    have no : ((0 : Int) == 0) = false → False := fun h => by cases h
    refine brk.mk (fun _ => ?_) (fun h => (no h).elim)
    refine brk.mk (fun _ => ?_) (fun h => (no h).elim)
    refine brk.mk (fun _ => ?_) (fun h => (no h).elim)
    refine brk.mk (fun _ => ?_) (fun h => ?_)
    case' refine_2 =>
      exfalso
      have := of_decide_eq_false h
      simp at this
    refine Exists.intro 0 ?_
    refine And.intro rfl ?_
    refine And.intro (Nat.succ_pos _) ?_
    refine brk.mk (fun _ => ?_) (fun h => ?_)
    case' refine_2 =>
      exfalso
      have h' : (name.toList == name.toList) = false := h
      simp at h'
    refine brk.mk (fun _ => ?_) (fun h => (no h).elim)
    refine brk.mk (fun _ => ?_) (fun h => by have h' : (data.toList == data.toList) = false := h; simp at h')
    refine XCall.lenv awake11 rfl ?_
    refine And.intro rfl (And.intro (AVles.refl _) ?_)
    repeat (first | (refine Sq.nx ?_; try dsimp only [St.put, rn, rns, rid, rnH, rnB, dead, AV.cells, setAt, enumEnv, List.length_nil, List.length_cons, List.getElem?_nil, List.getElem?_cons_zero, List.getElem?_cons_succ, Nat.reduceAdd, Nat.reduceSub, Nat.add_zero]) | refine Bq.nx ?_ | refine Bq.hit rfl ?_ | refine Bq.miss rfl ?_ | refine Sq.ex ?_ | refine Sq.rt ?_ | refine Bq.rt ?_ | refine Lq.ex ?_ | refine Lq.rt ?_ | with_reducible refine seq.mk ?_ | with_reducible refine blk.mk ?_ )
    refine Rq.rt ?_
    exact And.intro rfl (AVle.refl _)
end Go.Proofs.T

namespace Go.Proofs.T
open Go Go.Hb

theorem drop_there {s : Sh} {name : ByteArray} (h : Fit s.objs) (hn : Named name) (hf : fateOf s = 0) (ht : there s.objs name) : drop s name = (⟨wo s.objs name false ob0, s.fates.tail⟩, 0) := by
  unfold drop
  rw [if_neg (fun hc => hc (fit_iff.2 h)), if_neg (fun hc => hc hn), if_neg (by rw [hf]; decide), if_neg (by rw [hf]; decide), if_neg (fun hc => hc ht), del_wo h ht]
/-- What an honest shelf tells. -/
def told (o : Option Ob) : ByteArray × Int := match o with
  | some x => (x.data, 0)
  | none => (⟨#[]⟩, 9)
theorem get_told {objs : List Ob} {name : ByteArray} (h : Fit objs) (hn : Named name) : get ⟨objs, []⟩ name = (⟨objs, []⟩, (told (findR objs name)).1, (told (findR objs name)).2) := by
  have e1 := get_fit (s := ⟨objs, []⟩) h hn
  have e2 := get_honest (s := ⟨objs, []⟩) h hn (fate0 _)
  rw [← Prod.eta (get _ name), e1, e2]
  unfold told
  cases findR objs name <;> rfl
/-- A shelf without lies tells what was put last. -/
theorem honest4 (s : Sh) (name data other : ByteArray) : Pure Try.prog 4 [sAV s, .s name, .s data, .s other] (fun r => r = .b true) := by
  refine Pure.weak (Post := fun r => AVle r (.b true)) (Pure.of (XCall.bodyq is4 rfl ?_)) fun r h => ⟨_, rfl, h⟩
  unfold m4
  repeat (first | (refine Sq.nx ?_; try dsimp only [St.put, rn, rns, rid, rnH, rnB, dead, AV.cells, setAt, enumEnv, List.length_nil, List.length_cons, List.getElem?_nil, List.getElem?_cons_zero, List.getElem?_cons_succ, Nat.reduceAdd, Nat.reduceSub, Nat.add_zero]) | refine Bq.nx ?_ | refine Bq.hit rfl ?_ | refine Bq.miss rfl ?_ | refine Sq.ex ?_ | refine Sq.rt ?_ | refine Bq.rt ?_ | refine Lq.ex ?_ | refine Lq.rt ?_ | with_reducible refine seq.mk ?_ | with_reducible refine blk.mk ?_ )
  refine XCall.len (Exists.intro _ (And.intro (great8 s) (And.intro rfl ?_)))
  rintro r ⟨e, rfl, he⟩
  refine And.intro rfl ?_
  refine brk.mk (fun h => ?_) (fun h1 => ?_)
  · repeat (first | (refine Sq.nx ?_; try dsimp only [St.put, rn, rns, rid, rnH, rnB, dead, AV.cells, setAt, enumEnv, List.length_nil, List.length_cons, List.getElem?_nil, List.getElem?_cons_zero, List.getElem?_cons_succ, Nat.reduceAdd, Nat.reduceSub, Nat.add_zero]) | refine Bq.nx ?_ | refine Bq.hit rfl ?_ | refine Bq.miss rfl ?_ | refine Sq.ex ?_ | refine Sq.rt ?_ | refine Bq.rt ?_ | refine Lq.ex ?_ | refine Lq.rt ?_ | with_reducible refine seq.mk ?_ | with_reducible refine blk.mk ?_ )
    refine XCall.lenv awake11 rfl ?_
    refine And.intro rfl (And.intro (AVles.refl _) ?_)
    repeat (first | (refine Sq.nx ?_; try dsimp only [St.put, rn, rns, rid, rnH, rnB, dead, AV.cells, setAt, enumEnv, List.length_nil, List.length_cons, List.getElem?_nil, List.getElem?_cons_zero, List.getElem?_cons_succ, Nat.reduceAdd, Nat.reduceSub, Nat.add_zero]) | refine Bq.nx ?_ | refine Bq.hit rfl ?_ | refine Bq.miss rfl ?_ | refine Sq.ex ?_ | refine Sq.rt ?_ | refine Bq.rt ?_ | refine Lq.ex ?_ | refine Lq.rt ?_ | with_reducible refine seq.mk ?_ | with_reducible refine blk.mk ?_ )
    refine Rq.rt ?_
    exact And.intro rfl (AVle.refl _)
  have hsm := he (of_decide_eq_false h1)
  have hl : Small s := ⟨by have := hsm.1.1; omega, by have := hsm.1.2; omega⟩
  refine brk.mk (fun h => ?_) (fun h2 => ?_)
  · repeat (first | (refine Sq.nx ?_; try dsimp only [St.put, rn, rns, rid, rnH, rnB, dead, AV.cells, setAt, enumEnv, List.length_nil, List.length_cons, List.getElem?_nil, List.getElem?_cons_zero, List.getElem?_cons_succ, Nat.reduceAdd, Nat.reduceSub, Nat.add_zero]) | refine Bq.nx ?_ | refine Bq.hit rfl ?_ | refine Bq.miss rfl ?_ | refine Sq.ex ?_ | refine Sq.rt ?_ | refine Bq.rt ?_ | refine Lq.ex ?_ | refine Lq.rt ?_ | with_reducible refine seq.mk ?_ | with_reducible refine blk.mk ?_ )
    refine XCall.lenv awake11 rfl ?_
    refine And.intro rfl (And.intro (AVles.refl _) ?_)
    repeat (first | (refine Sq.nx ?_; try dsimp only [St.put, rn, rns, rid, rnH, rnB, dead, AV.cells, setAt, enumEnv, List.length_nil, List.length_cons, List.getElem?_nil, List.getElem?_cons_zero, List.getElem?_cons_succ, Nat.reduceAdd, Nat.reduceSub, Nat.add_zero]) | refine Bq.nx ?_ | refine Bq.hit rfl ?_ | refine Bq.miss rfl ?_ | refine Sq.ex ?_ | refine Sq.rt ?_ | refine Bq.rt ?_ | refine Lq.ex ?_ | refine Lq.rt ?_ | with_reducible refine seq.mk ?_ | with_reducible refine blk.mk ?_ )
    refine Rq.rt ?_
    exact And.intro rfl (AVle.refl _)
  have hd : ¬ 500 < (data.size : Int) := of_decide_eq_false h2
  have hdd : data.size ≤ 65536 := by omega
  refine XCall.lenv (check9 s hl.1) rfl ?_
  refine And.intro rfl (And.intro (AVles.refl _) ?_)
  refine brk.mk (fun h => ?_) (fun h3 => ?_)
  · repeat (first | (refine Sq.nx ?_; try dsimp only [St.put, rn, rns, rid, rnH, rnB, dead, AV.cells, setAt, enumEnv, List.length_nil, List.length_cons, List.getElem?_nil, List.getElem?_cons_zero, List.getElem?_cons_succ, Nat.reduceAdd, Nat.reduceSub, Nat.add_zero]) | refine Bq.nx ?_ | refine Bq.hit rfl ?_ | refine Bq.miss rfl ?_ | refine Sq.ex ?_ | refine Sq.rt ?_ | refine Bq.rt ?_ | refine Lq.ex ?_ | refine Lq.rt ?_ | with_reducible refine seq.mk ?_ | with_reducible refine blk.mk ?_ )
    refine XCall.lenv awake11 rfl ?_
    refine And.intro rfl (And.intro (AVles.refl _) ?_)
    repeat (first | (refine Sq.nx ?_; try dsimp only [St.put, rn, rns, rid, rnH, rnB, dead, AV.cells, setAt, enumEnv, List.length_nil, List.length_cons, List.getElem?_nil, List.getElem?_cons_zero, List.getElem?_cons_succ, Nat.reduceAdd, Nat.reduceSub, Nat.add_zero]) | refine Bq.nx ?_ | refine Bq.hit rfl ?_ | refine Bq.miss rfl ?_ | refine Sq.ex ?_ | refine Sq.rt ?_ | refine Bq.rt ?_ | refine Lq.ex ?_ | refine Lq.rt ?_ | with_reducible refine seq.mk ?_ | with_reducible refine blk.mk ?_ )
    refine Rq.rt ?_
    exact And.intro rfl (AVle.refl _)
  have hF : Fit s.objs := fit_iff.1 (bne_f h3)
  refine XCall.lenv (name_spec name) rfl ?_
  refine And.intro rfl (And.intro (AVles.refl _) ?_)
  refine brk.mk (fun h => ?_) (fun h4 => ?_)
  · repeat (first | (refine Sq.nx ?_; try dsimp only [St.put, rn, rns, rid, rnH, rnB, dead, AV.cells, setAt, enumEnv, List.length_nil, List.length_cons, List.getElem?_nil, List.getElem?_cons_zero, List.getElem?_cons_succ, Nat.reduceAdd, Nat.reduceSub, Nat.add_zero]) | refine Bq.nx ?_ | refine Bq.hit rfl ?_ | refine Bq.miss rfl ?_ | refine Sq.ex ?_ | refine Sq.rt ?_ | refine Bq.rt ?_ | refine Lq.ex ?_ | refine Lq.rt ?_ | with_reducible refine seq.mk ?_ | with_reducible refine blk.mk ?_ )
    refine XCall.lenv awake11 rfl ?_
    refine And.intro rfl (And.intro (AVles.refl _) ?_)
    repeat (first | (refine Sq.nx ?_; try dsimp only [St.put, rn, rns, rid, rnH, rnB, dead, AV.cells, setAt, enumEnv, List.length_nil, List.length_cons, List.getElem?_nil, List.getElem?_cons_zero, List.getElem?_cons_succ, Nat.reduceAdd, Nat.reduceSub, Nat.add_zero]) | refine Bq.nx ?_ | refine Bq.hit rfl ?_ | refine Bq.miss rfl ?_ | refine Sq.ex ?_ | refine Sq.rt ?_ | refine Bq.rt ?_ | refine Lq.ex ?_ | refine Lq.rt ?_ | with_reducible refine seq.mk ?_ | with_reducible refine blk.mk ?_ )
    refine Rq.rt ?_
    exact And.intro rfl (AVle.refl _)
  have hN := is_named h4
  refine XCall.lenv (name_spec other) rfl ?_
  refine And.intro rfl (And.intro (AVles.refl _) ?_)
  refine brk.mk (fun h => ?_) (fun h5 => ?_)
  · repeat (first | (refine Sq.nx ?_; try dsimp only [St.put, rn, rns, rid, rnH, rnB, dead, AV.cells, setAt, enumEnv, List.length_nil, List.length_cons, List.getElem?_nil, List.getElem?_cons_zero, List.getElem?_cons_succ, Nat.reduceAdd, Nat.reduceSub, Nat.add_zero]) | refine Bq.nx ?_ | refine Bq.hit rfl ?_ | refine Bq.miss rfl ?_ | refine Sq.ex ?_ | refine Sq.rt ?_ | refine Bq.rt ?_ | refine Lq.ex ?_ | refine Lq.rt ?_ | with_reducible refine seq.mk ?_ | with_reducible refine blk.mk ?_ )
    refine XCall.lenv awake11 rfl ?_
    refine And.intro rfl (And.intro (AVles.refl _) ?_)
    repeat (first | (refine Sq.nx ?_; try dsimp only [St.put, rn, rns, rid, rnH, rnB, dead, AV.cells, setAt, enumEnv, List.length_nil, List.length_cons, List.getElem?_nil, List.getElem?_cons_zero, List.getElem?_cons_succ, Nat.reduceAdd, Nat.reduceSub, Nat.add_zero]) | refine Bq.nx ?_ | refine Bq.hit rfl ?_ | refine Bq.miss rfl ?_ | refine Sq.ex ?_ | refine Sq.rt ?_ | refine Bq.rt ?_ | refine Lq.ex ?_ | refine Lq.rt ?_ | with_reducible refine seq.mk ?_ | with_reducible refine blk.mk ?_ )
    refine Rq.rt ?_
    exact And.intro rfl (AVle.refl _)
  have hO := is_named h5
  repeat (first | (refine Sq.nx ?_; try dsimp only [St.put, rn, rns, rid, rnH, rnB, dead, AV.cells, setAt, enumEnv, List.length_nil, List.length_cons, List.getElem?_nil, List.getElem?_cons_zero, List.getElem?_cons_succ, Nat.reduceAdd, Nat.reduceSub, Nat.add_zero]) | refine Bq.nx ?_ | refine Bq.hit rfl ?_ | refine Bq.miss rfl ?_ | refine Sq.ex ?_ | refine Sq.rt ?_ | refine Bq.rt ?_ | refine Lq.ex ?_ | refine Lq.rt ?_ | with_reducible refine seq.mk ?_ | with_reducible refine blk.mk ?_ )
  refine brk.mk (fun h => ?_) (fun h6 => ?_)
  · repeat (first | (refine Sq.nx ?_; try dsimp only [St.put, rn, rns, rid, rnH, rnB, dead, AV.cells, setAt, enumEnv, List.length_nil, List.length_cons, List.getElem?_nil, List.getElem?_cons_zero, List.getElem?_cons_succ, Nat.reduceAdd, Nat.reduceSub, Nat.add_zero]) | refine Bq.nx ?_ | refine Bq.hit rfl ?_ | refine Bq.miss rfl ?_ | refine Sq.ex ?_ | refine Sq.rt ?_ | refine Bq.rt ?_ | refine Lq.ex ?_ | refine Lq.rt ?_ | with_reducible refine seq.mk ?_ | with_reducible refine blk.mk ?_ )
    refine XCall.lenv awake11 rfl ?_
    refine And.intro rfl (And.intro (AVles.refl _) ?_)
    repeat (first | (refine Sq.nx ?_; try dsimp only [St.put, rn, rns, rid, rnH, rnB, dead, AV.cells, setAt, enumEnv, List.length_nil, List.length_cons, List.getElem?_nil, List.getElem?_cons_zero, List.getElem?_cons_succ, Nat.reduceAdd, Nat.reduceSub, Nat.add_zero]) | refine Bq.nx ?_ | refine Bq.hit rfl ?_ | refine Bq.miss rfl ?_ | refine Sq.ex ?_ | refine Sq.rt ?_ | refine Bq.rt ?_ | refine Lq.ex ?_ | refine Lq.rt ?_ | with_reducible refine seq.mk ?_ | with_reducible refine blk.mk ?_ )
    refine Rq.rt ?_
    exact And.intro rfl (AVle.refl _)
  rw [beq_iff] at h6
  have hne : other ≠ name := fun e => of_decide_eq_false h6 e.symm
  have hF2 : Fit (upd s.objs name data) := upd_fit hF hN hdd
  have hl1 : Small ⟨s.objs, []⟩ := ⟨hl.1, Nat.zero_le _⟩
  have hl2 : Small ⟨upd s.objs name data, []⟩ := ⟨by
    have := hsm.1.1
    have := wo_len s.objs name true ⟨name, data, (under s.objs name).data, (findR s.objs name).isSome⟩
    show (upd s.objs name data).length ≤ _
    rw [upd_wo hF]
    omega, Nat.zero_le _⟩
  have f1 : findR (upd s.objs name data) name = some ⟨name, data, (under s.objs name).data, (findR s.objs name).isSome⟩ := by rw [upd_wo hF]; exact wo_same (name := name) rfl
  have f2 : findR (upd s.objs name data) other = findR s.objs other := by rw [upd_wo hF]; exact wo_other (fun _ => rfl) hne
  have ht : there (upd s.objs name data) name := (there_iff hF2 name).2 (by rw [f1]; rfl)
  have hF3 : Fit (wo (upd s.objs name data) name false ob0) := wo_fit hF2 name false ob0 fun h => by cases h
  have hl3 : Small ⟨wo (upd s.objs name data) name false ob0, []⟩ := ⟨by
    have := hsm.1.1
    have := wo_len s.objs name true ⟨name, data, (under s.objs name).data, (findR s.objs name).isSome⟩
    have := wo_len (upd s.objs name data) name false ob0
    show (wo (upd s.objs name data) name false ob0).length ≤ _
    rw [upd_wo hF] at this ⊢
    omega, Nat.zero_le _⟩
  have f3 : findR (wo (upd s.objs name data) name false ob0) name = none := wo_gone
  have f4 : findR (wo (upd s.objs name data) name false ob0) other = findR s.objs other := by rw [wo_other (fun h => by cases h) hne, f2]
  repeat (first | (refine Sq.nx ?_; try dsimp only [St.put, rn, rns, rid, rnH, rnB, dead, AV.cells, setAt, enumEnv, List.length_nil, List.length_cons, List.getElem?_nil, List.getElem?_cons_zero, List.getElem?_cons_succ, Nat.reduceAdd, Nat.reduceSub, Nat.add_zero]) | refine Bq.nx ?_ | refine Bq.hit rfl ?_ | refine Bq.miss rfl ?_ | refine Sq.ex ?_ | refine Sq.rt ?_ | refine Bq.rt ?_ | refine Lq.ex ?_ | refine Lq.rt ?_ | with_reducible refine seq.mk ?_ | with_reducible refine blk.mk ?_ )
  refine XCall.givv (honest15 s) ?_
  refine And.intro rfl (And.intro (AVles.refl _) ?_)
  repeat (first | (refine Sq.nx ?_; try dsimp only [St.put, rn, rns, rid, rnH, rnB, dead, AV.cells, setAt, enumEnv, List.length_nil, List.length_cons, List.getElem?_nil, List.getElem?_cons_zero, List.getElem?_cons_succ, Nat.reduceAdd, Nat.reduceSub, Nat.add_zero]) | refine Bq.nx ?_ | refine Bq.hit rfl ?_ | refine Bq.miss rfl ?_ | refine Sq.ex ?_ | refine Sq.rt ?_ | refine Bq.rt ?_ | refine Lq.ex ?_ | refine Lq.rt ?_ | with_reducible refine seq.mk ?_ | with_reducible refine blk.mk ?_ )
  have p1 := get12 ⟨s.objs, []⟩ other hl1
  rw [get_told hF hO] at p1
  refine XCall.givv p1 ?_
  refine And.intro rfl (And.intro (AVles.refl _) ?_)
  repeat (first | (refine Sq.nx ?_; try dsimp only [St.put, rn, rns, rid, rnH, rnB, dead, AV.cells, setAt, enumEnv, List.length_nil, List.length_cons, List.getElem?_nil, List.getElem?_cons_zero, List.getElem?_cons_succ, Nat.reduceAdd, Nat.reduceSub, Nat.add_zero]) | refine Bq.nx ?_ | refine Bq.hit rfl ?_ | refine Bq.miss rfl ?_ | refine Sq.ex ?_ | refine Sq.rt ?_ | refine Bq.rt ?_ | refine Lq.ex ?_ | refine Lq.rt ?_ | with_reducible refine seq.mk ?_ | with_reducible refine blk.mk ?_ )
  have p2 := put13 ⟨s.objs, []⟩ name data hl1 (by omega)
  rw [put_ok (s := ⟨s.objs, []⟩) hF hN hdd (fate0 _)] at p2
  refine XCall.givv p2 ?_
  refine And.intro rfl (And.intro (AVles.refl _) ?_)
  repeat (first | (refine Sq.nx ?_; try dsimp only [St.put, rn, rns, rid, rnH, rnB, dead, AV.cells, setAt, enumEnv, List.length_nil, List.length_cons, List.getElem?_nil, List.getElem?_cons_zero, List.getElem?_cons_succ, Nat.reduceAdd, Nat.reduceSub, Nat.add_zero]) | refine Bq.nx ?_ | refine Bq.hit rfl ?_ | refine Bq.miss rfl ?_ | refine Sq.ex ?_ | refine Sq.rt ?_ | refine Bq.rt ?_ | refine Lq.ex ?_ | refine Lq.rt ?_ | with_reducible refine seq.mk ?_ | with_reducible refine blk.mk ?_ )
  have p3 := get12 ⟨upd s.objs name data, []⟩ name hl2
  rw [get_told hF2 hN, f1] at p3
  refine XCall.givv p3 ?_
  refine And.intro rfl (And.intro (AVles.refl _) ?_)
  repeat (first | (refine Sq.nx ?_; try dsimp only [St.put, rn, rns, rid, rnH, rnB, dead, AV.cells, setAt, enumEnv, List.length_nil, List.length_cons, List.getElem?_nil, List.getElem?_cons_zero, List.getElem?_cons_succ, Nat.reduceAdd, Nat.reduceSub, Nat.add_zero]) | refine Bq.nx ?_ | refine Bq.hit rfl ?_ | refine Bq.miss rfl ?_ | refine Sq.ex ?_ | refine Sq.rt ?_ | refine Bq.rt ?_ | refine Lq.ex ?_ | refine Lq.rt ?_ | with_reducible refine seq.mk ?_ | with_reducible refine blk.mk ?_ )
  have p4 := get12 ⟨upd s.objs name data, []⟩ other hl2
  rw [get_told hF2 hO, f2] at p4
  refine XCall.givv p4 ?_
  refine And.intro rfl (And.intro (AVles.refl _) ?_)
  repeat (first | (refine Sq.nx ?_; try dsimp only [St.put, rn, rns, rid, rnH, rnB, dead, AV.cells, setAt, enumEnv, List.length_nil, List.length_cons, List.getElem?_nil, List.getElem?_cons_zero, List.getElem?_cons_succ, Nat.reduceAdd, Nat.reduceSub, Nat.add_zero]) | refine Bq.nx ?_ | refine Bq.hit rfl ?_ | refine Bq.miss rfl ?_ | refine Sq.ex ?_ | refine Sq.rt ?_ | refine Bq.rt ?_ | refine Lq.ex ?_ | refine Lq.rt ?_ | with_reducible refine seq.mk ?_ | with_reducible refine blk.mk ?_ )
  have p5 := drop16 ⟨upd s.objs name data, []⟩ name hl2
  rw [drop_there (s := ⟨upd s.objs name data, []⟩) hF2 hN (fate0 _) ht] at p5
  refine XCall.givv p5 ?_
  refine And.intro rfl (And.intro (AVles.refl _) ?_)
  repeat (first | (refine Sq.nx ?_; try dsimp only [St.put, rn, rns, rid, rnH, rnB, dead, AV.cells, setAt, enumEnv, List.length_nil, List.length_cons, List.getElem?_nil, List.getElem?_cons_zero, List.getElem?_cons_succ, Nat.reduceAdd, Nat.reduceSub, Nat.add_zero]) | refine Bq.nx ?_ | refine Bq.hit rfl ?_ | refine Bq.miss rfl ?_ | refine Sq.ex ?_ | refine Sq.rt ?_ | refine Bq.rt ?_ | refine Lq.ex ?_ | refine Lq.rt ?_ | with_reducible refine seq.mk ?_ | with_reducible refine blk.mk ?_ )
  have p6 := get12 ⟨wo (upd s.objs name data) name false ob0, []⟩ name hl3
  rw [get_told hF3 hN, f3] at p6
  refine XCall.givv p6 ?_
  refine And.intro rfl (And.intro (AVles.refl _) ?_)
  repeat (first | (refine Sq.nx ?_; try dsimp only [St.put, rn, rns, rid, rnH, rnB, dead, AV.cells, setAt, enumEnv, List.length_nil, List.length_cons, List.getElem?_nil, List.getElem?_cons_zero, List.getElem?_cons_succ, Nat.reduceAdd, Nat.reduceSub, Nat.add_zero]) | refine Bq.nx ?_ | refine Bq.hit rfl ?_ | refine Bq.miss rfl ?_ | refine Sq.ex ?_ | refine Sq.rt ?_ | refine Bq.rt ?_ | refine Lq.ex ?_ | refine Lq.rt ?_ | with_reducible refine seq.mk ?_ | with_reducible refine blk.mk ?_ )
  have p7 := get12 ⟨wo (upd s.objs name data) name false ob0, []⟩ other hl3
  rw [get_told hF3 hO, f4] at p7
  refine XCall.givv p7 ?_
  refine And.intro rfl (And.intro (AVles.refl _) ?_)
  repeat (first | (refine Sq.nx ?_; try dsimp only [St.put, rn, rns, rid, rnH, rnB, dead, AV.cells, setAt, enumEnv, List.length_nil, List.length_cons, List.getElem?_nil, List.getElem?_cons_zero, List.getElem?_cons_succ, Nat.reduceAdd, Nat.reduceSub, Nat.add_zero]) | refine Bq.nx ?_ | refine Bq.hit rfl ?_ | refine Bq.miss rfl ?_ | refine Sq.ex ?_ | refine Sq.rt ?_ | refine Bq.rt ?_ | refine Lq.ex ?_ | refine Lq.rt ?_ | with_reducible refine seq.mk ?_ | with_reducible refine blk.mk ?_ )
  have no : ∀ x : Int, (x == x) = false → False := fun x h => by simp at h
  have ns : ∀ x : ByteArray, (x.toList == x.toList) = false → False := fun x h => by simp at h
  refine brk.mk (fun _ => ?_) (fun h => (no _ h).elim)
  refine brk.mk (fun _ => ?_) (fun h => (no _ h).elim)
  refine brk.mk (fun _ => ?_) (fun h => (ns _ h).elim)
  refine brk.mk (fun _ => ?_) (fun h => (ns _ h).elim)
  refine brk.mk (fun _ => ?_) (fun h => (no _ h).elim)
  refine brk.mk (fun _ => ?_) (fun h => (no _ h).elim)
  refine brk.mk (fun _ => ?_) (fun h => (ns _ h).elim)
  refine brk.mk (fun _ => ?_) (fun h => (no _ h).elim)
  refine brk.mk (fun _ => ?_) (fun h => (ns _ h).elim)
  refine brk.mk (fun _ => ?_) (fun h => (no _ h).elim)
  refine XCall.lenv awake11 rfl ?_
  refine And.intro rfl (And.intro (AVles.refl _) ?_)
  repeat (first | (refine Sq.nx ?_; try dsimp only [St.put, rn, rns, rid, rnH, rnB, dead, AV.cells, setAt, enumEnv, List.length_nil, List.length_cons, List.getElem?_nil, List.getElem?_cons_zero, List.getElem?_cons_succ, Nat.reduceAdd, Nat.reduceSub, Nat.add_zero]) | refine Bq.nx ?_ | refine Bq.hit rfl ?_ | refine Bq.miss rfl ?_ | refine Sq.ex ?_ | refine Sq.rt ?_ | refine Bq.rt ?_ | refine Lq.ex ?_ | refine Lq.rt ?_ | with_reducible refine seq.mk ?_ | with_reducible refine blk.mk ?_ )
  refine Rq.rt ?_
  exact And.intro rfl (AVle.refl _)
end Go.Proofs.T

namespace Go.Proofs.T
open Go Go.Hb

theorem put_bad {s : Sh} {name data : ByteArray} (h : check s.objs ≠ 0) : put s name data = (s, check s.objs) := by unfold put; rw [if_pos h]
theorem get_bad {s : Sh} {name : ByteArray} (h : check s.objs ≠ 0) : get s name = (s, ⟨#[]⟩, check s.objs) := by unfold get; rw [if_pos h]
theorem drop_bad {s : Sh} {name : ByteArray} (h : check s.objs ≠ 0) : drop s name = (s, check s.objs) := by unfold drop; rw [if_pos h]
theorem names_bad {s : Sh} {front : ByteArray} (h : check s.objs ≠ 0) : namesOf s front = (s, [], check s.objs) := by unfold namesOf; rw [if_pos h]
/-- Why a shelf may not be. -/
theorem checks5 (s : Sh) (name data : ByteArray) : Pure Try.prog 5 [sAV s, .s name, .s data] (fun r => r = .b true) := by
  refine Pure.weak (Post := fun r => AVle r (.b true)) (Pure.of (XCall.bodyq is5 rfl ?_)) fun r h => ⟨_, rfl, h⟩
  unfold m5
  repeat (first | (refine Sq.nx ?_; try dsimp only [St.put, rn, rns, rid, rnH, rnB, dead, AV.cells, setAt, enumEnv, List.length_nil, List.length_cons, List.getElem?_nil, List.getElem?_cons_zero, List.getElem?_cons_succ, Nat.reduceAdd, Nat.reduceSub, Nat.add_zero]) | refine Bq.nx ?_ | refine Bq.hit rfl ?_ | refine Bq.miss rfl ?_ | refine Sq.ex ?_ | refine Sq.rt ?_ | refine Bq.rt ?_ | refine Lq.ex ?_ | refine Lq.rt ?_ | with_reducible refine seq.mk ?_ | with_reducible refine blk.mk ?_ )
  refine XCall.len (Exists.intro _ (And.intro (great8 s) (And.intro rfl ?_)))
  rintro r ⟨e, rfl, he⟩
  refine And.intro rfl ?_
  refine brk.mk (fun h => ?_) (fun h1 => ?_)
  · repeat (first | (refine Sq.nx ?_; try dsimp only [St.put, rn, rns, rid, rnH, rnB, dead, AV.cells, setAt, enumEnv, List.length_nil, List.length_cons, List.getElem?_nil, List.getElem?_cons_zero, List.getElem?_cons_succ, Nat.reduceAdd, Nat.reduceSub, Nat.add_zero]) | refine Bq.nx ?_ | refine Bq.hit rfl ?_ | refine Bq.miss rfl ?_ | refine Sq.ex ?_ | refine Sq.rt ?_ | refine Bq.rt ?_ | refine Lq.ex ?_ | refine Lq.rt ?_ | with_reducible refine seq.mk ?_ | with_reducible refine blk.mk ?_ )
    refine XCall.lenv awake11 rfl ?_
    refine And.intro rfl (And.intro (AVles.refl _) ?_)
    repeat (first | (refine Sq.nx ?_; try dsimp only [St.put, rn, rns, rid, rnH, rnB, dead, AV.cells, setAt, enumEnv, List.length_nil, List.length_cons, List.getElem?_nil, List.getElem?_cons_zero, List.getElem?_cons_succ, Nat.reduceAdd, Nat.reduceSub, Nat.add_zero]) | refine Bq.nx ?_ | refine Bq.hit rfl ?_ | refine Bq.miss rfl ?_ | refine Sq.ex ?_ | refine Sq.rt ?_ | refine Bq.rt ?_ | refine Lq.ex ?_ | refine Lq.rt ?_ | with_reducible refine seq.mk ?_ | with_reducible refine blk.mk ?_ )
    refine Rq.rt ?_
    exact And.intro rfl (AVle.refl _)
  have hsm := he (of_decide_eq_false h1)
  have hl : Small s := ⟨by have := hsm.1.1; omega, by have := hsm.1.2; omega⟩
  refine brk.mk (fun h => ?_) (fun h2 => ?_)
  · repeat (first | (refine Sq.nx ?_; try dsimp only [St.put, rn, rns, rid, rnH, rnB, dead, AV.cells, setAt, enumEnv, List.length_nil, List.length_cons, List.getElem?_nil, List.getElem?_cons_zero, List.getElem?_cons_succ, Nat.reduceAdd, Nat.reduceSub, Nat.add_zero]) | refine Bq.nx ?_ | refine Bq.hit rfl ?_ | refine Bq.miss rfl ?_ | refine Sq.ex ?_ | refine Sq.rt ?_ | refine Bq.rt ?_ | refine Lq.ex ?_ | refine Lq.rt ?_ | with_reducible refine seq.mk ?_ | with_reducible refine blk.mk ?_ )
    refine XCall.lenv awake11 rfl ?_
    refine And.intro rfl (And.intro (AVles.refl _) ?_)
    repeat (first | (refine Sq.nx ?_; try dsimp only [St.put, rn, rns, rid, rnH, rnB, dead, AV.cells, setAt, enumEnv, List.length_nil, List.length_cons, List.getElem?_nil, List.getElem?_cons_zero, List.getElem?_cons_succ, Nat.reduceAdd, Nat.reduceSub, Nat.add_zero]) | refine Bq.nx ?_ | refine Bq.hit rfl ?_ | refine Bq.miss rfl ?_ | refine Sq.ex ?_ | refine Sq.rt ?_ | refine Bq.rt ?_ | refine Lq.ex ?_ | refine Lq.rt ?_ | with_reducible refine seq.mk ?_ | with_reducible refine blk.mk ?_ )
    refine Rq.rt ?_
    exact And.intro rfl (AVle.refl _)
  repeat (first | (refine Sq.nx ?_; try dsimp only [St.put, rn, rns, rid, rnH, rnB, dead, AV.cells, setAt, enumEnv, List.length_nil, List.length_cons, List.getElem?_nil, List.getElem?_cons_zero, List.getElem?_cons_succ, Nat.reduceAdd, Nat.reduceSub, Nat.add_zero]) | refine Bq.nx ?_ | refine Bq.hit rfl ?_ | refine Bq.miss rfl ?_ | refine Sq.ex ?_ | refine Sq.rt ?_ | refine Bq.rt ?_ | refine Lq.ex ?_ | refine Lq.rt ?_ | with_reducible refine seq.mk ?_ | with_reducible refine blk.mk ?_ )
  refine brk.mk (fun h => ?_) (fun h3 => ?_)
  · repeat (first | (refine Sq.nx ?_; try dsimp only [St.put, rn, rns, rid, rnH, rnB, dead, AV.cells, setAt, enumEnv, List.length_nil, List.length_cons, List.getElem?_nil, List.getElem?_cons_zero, List.getElem?_cons_succ, Nat.reduceAdd, Nat.reduceSub, Nat.add_zero]) | refine Bq.nx ?_ | refine Bq.hit rfl ?_ | refine Bq.miss rfl ?_ | refine Sq.ex ?_ | refine Sq.rt ?_ | refine Bq.rt ?_ | refine Lq.ex ?_ | refine Lq.rt ?_ | with_reducible refine seq.mk ?_ | with_reducible refine blk.mk ?_ )
    refine XCall.lenv awake11 rfl ?_
    refine And.intro rfl (And.intro (AVles.refl _) ?_)
    repeat (first | (refine Sq.nx ?_; try dsimp only [St.put, rn, rns, rid, rnH, rnB, dead, AV.cells, setAt, enumEnv, List.length_nil, List.length_cons, List.getElem?_nil, List.getElem?_cons_zero, List.getElem?_cons_succ, Nat.reduceAdd, Nat.reduceSub, Nat.add_zero]) | refine Bq.nx ?_ | refine Bq.hit rfl ?_ | refine Bq.miss rfl ?_ | refine Sq.ex ?_ | refine Sq.rt ?_ | refine Bq.rt ?_ | refine Lq.ex ?_ | refine Lq.rt ?_ | with_reducible refine seq.mk ?_ | with_reducible refine blk.mk ?_ )
    refine Rq.rt ?_
    exact And.intro rfl (AVle.refl _)
  have hd : ¬ 500 < (data.size : Int) := of_decide_eq_false h3
  repeat (first | (refine Sq.nx ?_; try dsimp only [St.put, rn, rns, rid, rnH, rnB, dead, AV.cells, setAt, enumEnv, List.length_nil, List.length_cons, List.getElem?_nil, List.getElem?_cons_zero, List.getElem?_cons_succ, Nat.reduceAdd, Nat.reduceSub, Nat.add_zero]) | refine Bq.nx ?_ | refine Bq.hit rfl ?_ | refine Bq.miss rfl ?_ | refine Sq.ex ?_ | refine Sq.rt ?_ | refine Bq.rt ?_ | refine Lq.ex ?_ | refine Lq.rt ?_ | with_reducible refine seq.mk ?_ | with_reducible refine blk.mk ?_ )
  refine XCall.lenv (check17 s hl.1) rfl ?_
  refine And.intro rfl (And.intro (AVles.refl _) ?_)
  repeat (first | (refine Sq.nx ?_; try dsimp only [St.put, rn, rns, rid, rnH, rnB, dead, AV.cells, setAt, enumEnv, List.length_nil, List.length_cons, List.getElem?_nil, List.getElem?_cons_zero, List.getElem?_cons_succ, Nat.reduceAdd, Nat.reduceSub, Nat.add_zero]) | refine Bq.nx ?_ | refine Bq.hit rfl ?_ | refine Bq.miss rfl ?_ | refine Sq.ex ?_ | refine Sq.rt ?_ | refine Bq.rt ?_ | refine Lq.ex ?_ | refine Lq.rt ?_ | with_reducible refine seq.mk ?_ | with_reducible refine blk.mk ?_ )
  refine XCall.lenv (check9 s hl.1) rfl ?_
  refine And.intro rfl (And.intro (AVles.refl _) ?_)
  repeat (first | (refine Sq.nx ?_; try dsimp only [St.put, rn, rns, rid, rnH, rnB, dead, AV.cells, setAt, enumEnv, List.length_nil, List.length_cons, List.getElem?_nil, List.getElem?_cons_zero, List.getElem?_cons_succ, Nat.reduceAdd, Nat.reduceSub, Nat.add_zero]) | refine Bq.nx ?_ | refine Bq.hit rfl ?_ | refine Bq.miss rfl ?_ | refine Sq.ex ?_ | refine Sq.rt ?_ | refine Bq.rt ?_ | refine Lq.ex ?_ | refine Lq.rt ?_ | with_reducible refine seq.mk ?_ | with_reducible refine blk.mk ?_ )
  refine brk.mk (fun h => by simp at h) (fun _ => ?_)
  repeat (first | (refine Sq.nx ?_; try dsimp only [St.put, rn, rns, rid, rnH, rnB, dead, AV.cells, setAt, enumEnv, List.length_nil, List.length_cons, List.getElem?_nil, List.getElem?_cons_zero, List.getElem?_cons_succ, Nat.reduceAdd, Nat.reduceSub, Nat.add_zero]) | refine Bq.nx ?_ | refine Bq.hit rfl ?_ | refine Bq.miss rfl ?_ | refine Sq.ex ?_ | refine Sq.rt ?_ | refine Bq.rt ?_ | refine Lq.ex ?_ | refine Lq.rt ?_ | with_reducible refine seq.mk ?_ | with_reducible refine blk.mk ?_ )
  refine brk.mk (fun h => ?_) (fun h4 => ?_)
  · repeat (first | (refine Sq.nx ?_; try dsimp only [St.put, rn, rns, rid, rnH, rnB, dead, AV.cells, setAt, enumEnv, List.length_nil, List.length_cons, List.getElem?_nil, List.getElem?_cons_zero, List.getElem?_cons_succ, Nat.reduceAdd, Nat.reduceSub, Nat.add_zero]) | refine Bq.nx ?_ | refine Bq.hit rfl ?_ | refine Bq.miss rfl ?_ | refine Sq.ex ?_ | refine Sq.rt ?_ | refine Bq.rt ?_ | refine Lq.ex ?_ | refine Lq.rt ?_ | with_reducible refine seq.mk ?_ | with_reducible refine blk.mk ?_ )
    refine XCall.lenv awake11 rfl ?_
    refine And.intro rfl (And.intro (AVles.refl _) ?_)
    repeat (first | (refine Sq.nx ?_; try dsimp only [St.put, rn, rns, rid, rnH, rnB, dead, AV.cells, setAt, enumEnv, List.length_nil, List.length_cons, List.getElem?_nil, List.getElem?_cons_zero, List.getElem?_cons_succ, Nat.reduceAdd, Nat.reduceSub, Nat.add_zero]) | refine Bq.nx ?_ | refine Bq.hit rfl ?_ | refine Bq.miss rfl ?_ | refine Sq.ex ?_ | refine Sq.rt ?_ | refine Bq.rt ?_ | refine Lq.ex ?_ | refine Lq.rt ?_ | with_reducible refine seq.mk ?_ | with_reducible refine blk.mk ?_ )
    refine Rq.rt ?_
    exact And.intro rfl (AVle.refl _)
  have hc : check s.objs ≠ 0 := fun e => by rw [e] at h4; cases h4
  repeat (first | (refine Sq.nx ?_; try dsimp only [St.put, rn, rns, rid, rnH, rnB, dead, AV.cells, setAt, enumEnv, List.length_nil, List.length_cons, List.getElem?_nil, List.getElem?_cons_zero, List.getElem?_cons_succ, Nat.reduceAdd, Nat.reduceSub, Nat.add_zero]) | refine Bq.nx ?_ | refine Bq.hit rfl ?_ | refine Bq.miss rfl ?_ | refine Sq.ex ?_ | refine Sq.rt ?_ | refine Bq.rt ?_ | refine Lq.ex ?_ | refine Lq.rt ?_ | with_reducible refine seq.mk ?_ | with_reducible refine blk.mk ?_ )
  have p1 := put13 s name data hl (by omega)
  rw [put_bad hc] at p1
  refine XCall.givv p1 ?_
  refine And.intro rfl (And.intro (AVles.refl _) ?_)
  repeat (first | (refine Sq.nx ?_; try dsimp only [St.put, rn, rns, rid, rnH, rnB, dead, AV.cells, setAt, enumEnv, List.length_nil, List.length_cons, List.getElem?_nil, List.getElem?_cons_zero, List.getElem?_cons_succ, Nat.reduceAdd, Nat.reduceSub, Nat.add_zero]) | refine Bq.nx ?_ | refine Bq.hit rfl ?_ | refine Bq.miss rfl ?_ | refine Sq.ex ?_ | refine Sq.rt ?_ | refine Bq.rt ?_ | refine Lq.ex ?_ | refine Lq.rt ?_ | with_reducible refine seq.mk ?_ | with_reducible refine blk.mk ?_ )
  have p2 := get12 s name hl
  rw [get_bad hc] at p2
  refine XCall.givv p2 ?_
  refine And.intro rfl (And.intro (AVles.refl _) ?_)
  repeat (first | (refine Sq.nx ?_; try dsimp only [St.put, rn, rns, rid, rnH, rnB, dead, AV.cells, setAt, enumEnv, List.length_nil, List.length_cons, List.getElem?_nil, List.getElem?_cons_zero, List.getElem?_cons_succ, Nat.reduceAdd, Nat.reduceSub, Nat.add_zero]) | refine Bq.nx ?_ | refine Bq.hit rfl ?_ | refine Bq.miss rfl ?_ | refine Sq.ex ?_ | refine Sq.rt ?_ | refine Bq.rt ?_ | refine Lq.ex ?_ | refine Lq.rt ?_ | with_reducible refine seq.mk ?_ | with_reducible refine blk.mk ?_ )
  have p3 := drop16 s name hl
  rw [drop_bad hc] at p3
  refine XCall.givv p3 ?_
  refine And.intro rfl (And.intro (AVles.refl _) ?_)
  repeat (first | (refine Sq.nx ?_; try dsimp only [St.put, rn, rns, rid, rnH, rnB, dead, AV.cells, setAt, enumEnv, List.length_nil, List.length_cons, List.getElem?_nil, List.getElem?_cons_zero, List.getElem?_cons_succ, Nat.reduceAdd, Nat.reduceSub, Nat.add_zero]) | refine Bq.nx ?_ | refine Bq.hit rfl ?_ | refine Bq.miss rfl ?_ | refine Sq.ex ?_ | refine Sq.rt ?_ | refine Bq.rt ?_ | refine Lq.ex ?_ | refine Lq.rt ?_ | with_reducible refine seq.mk ?_ | with_reducible refine blk.mk ?_ )
  have p4 := names14 s name hl
  rw [names_bad hc] at p4
  refine XCall.givv p4 ?_
  refine And.intro rfl (And.intro (AVles.refl _) ?_)
  repeat (first | (refine Sq.nx ?_; try dsimp only [St.put, rn, rns, rid, rnH, rnB, dead, AV.cells, setAt, enumEnv, List.length_nil, List.length_cons, List.getElem?_nil, List.getElem?_cons_zero, List.getElem?_cons_succ, Nat.reduceAdd, Nat.reduceSub, Nat.add_zero]) | refine Bq.nx ?_ | refine Bq.hit rfl ?_ | refine Bq.miss rfl ?_ | refine Sq.ex ?_ | refine Sq.rt ?_ | refine Bq.rt ?_ | refine Lq.ex ?_ | refine Lq.rt ?_ | with_reducible refine seq.mk ?_ | with_reducible refine blk.mk ?_ )
  have no : ∀ x : Int, (x == x) = false → False := fun x h => by simp at h
  have ns : ∀ x : ByteArray, (x.toList == x.toList) = false → False := fun x h => by simp at h
  refine XCall.lenv (same18 s hl) rfl ?_
  refine And.intro rfl (And.intro (AVles.refl _) ?_)
  refine brk.mk (fun _ => ?_) (fun h => by cases h)
  refine XCall.lenv (same18 s hl) rfl ?_
  refine And.intro rfl (And.intro (AVles.refl _) ?_)
  refine brk.mk (fun _ => ?_) (fun h => by cases h)
  refine XCall.lenv (same18 s hl) rfl ?_
  refine And.intro rfl (And.intro (AVles.refl _) ?_)
  refine brk.mk (fun _ => ?_) (fun h => by cases h)
  refine XCall.lenv (same18 s hl) rfl ?_
  refine And.intro rfl (And.intro (AVles.refl _) ?_)
  repeat (first | (refine Sq.nx ?_; try dsimp only [St.put, rn, rns, rid, rnH, rnB, dead, AV.cells, setAt, enumEnv, List.length_nil, List.length_cons, List.getElem?_nil, List.getElem?_cons_zero, List.getElem?_cons_succ, Nat.reduceAdd, Nat.reduceSub, Nat.add_zero]) | refine Bq.nx ?_ | refine Bq.hit rfl ?_ | refine Bq.miss rfl ?_ | refine Sq.ex ?_ | refine Sq.rt ?_ | refine Bq.rt ?_ | refine Lq.ex ?_ | refine Lq.rt ?_ | with_reducible refine seq.mk ?_ | with_reducible refine blk.mk ?_ )
  refine brk.mk (fun _ => ?_) (fun h => by cases h)
  refine brk.mk (fun _ => ?_) (fun h => (no _ h).elim)
  refine brk.mk (fun _ => ?_) (fun h => (no _ h).elim)
  refine brk.mk (fun _ => ?_) (fun h => (no _ h).elim)
  refine brk.mk (fun _ => ?_) (fun h => (no _ h).elim)
  refine brk.mk (fun _ => ?_) (fun h => (ns _ h).elim)
  refine brk.mk (fun _ => ?_) (fun h => (no _ h).elim)
  refine XCall.lenv awake11 rfl ?_
  refine And.intro rfl (And.intro (AVles.refl _) ?_)
  repeat (first | (refine Sq.nx ?_; try dsimp only [St.put, rn, rns, rid, rnH, rnB, dead, AV.cells, setAt, enumEnv, List.length_nil, List.length_cons, List.getElem?_nil, List.getElem?_cons_zero, List.getElem?_cons_succ, Nat.reduceAdd, Nat.reduceSub, Nat.add_zero]) | refine Bq.nx ?_ | refine Bq.hit rfl ?_ | refine Bq.miss rfl ?_ | refine Sq.ex ?_ | refine Sq.rt ?_ | refine Bq.rt ?_ | refine Lq.ex ?_ | refine Lq.rt ?_ | with_reducible refine seq.mk ?_ | with_reducible refine blk.mk ?_ )
  refine Rq.rt ?_
  exact And.intro rfl (AVle.refl _)
end Go.Proofs.T

namespace Go.Proofs.T
open Go Go.Hb

theorem upd_len (l : List Ob) (name data : ByteArray) : (upd l name data).length ≤ l.length + 1 := by
  unfold upd
  by_cases h : there l name
  · rw [if_pos h]; simp
  · rw [if_neg h, ins_len (pos_le l name)]; omega
/-- What a call leaves. -/
structure Keeps (s r : Sh) : Prop where
  objs : r.objs.length ≤ s.objs.length + 1
  fates : r.fates.length ≤ s.fates.length
  fit : Fit s.objs → Fit r.objs
theorem Keeps.refl (s : Sh) : Keeps s s := ⟨Nat.le_succ _, Nat.le_refl _, fun h => h⟩
theorem Keeps.tail (s : Sh) : Keeps s ⟨s.objs, s.fates.tail⟩ := ⟨Nat.le_succ _, by simp, fun h => h⟩
theorem put_keeps (s : Sh) (name data : ByteArray) : Keeps s (put s name data).1 := by
  unfold put
  split
  · exact Keeps.refl s
  rename_i hc
  have hF := fit_iff.1 (Decidable.not_not.1 hc)
  split
  · exact Keeps.refl s
  rename_i hn
  split
  · exact Keeps.refl s
  rename_i hd
  split
  · exact Keeps.tail s
  split
  · exact Keeps.tail s
  refine ⟨upd_len _ _ _, by simp, fun _ => upd_fit hF (Decidable.not_not.1 hn) ?_⟩
  split
  · rw [flip_size]; omega
  · omega
theorem get_keeps (s : Sh) (name : ByteArray) : Keeps s (get s name).1 := by
  unfold get
  split
  · exact Keeps.refl s
  split
  · exact Keeps.refl s
  split
  · exact Keeps.tail s
  split
  · exact Keeps.tail s
  split
  · exact Keeps.tail s
  split
  · exact Keeps.tail s
  · exact Keeps.tail s
theorem drop_keeps (s : Sh) (name : ByteArray) : Keeps s (drop s name).1 := by
  unfold drop
  split
  · exact Keeps.refl s
  rename_i hc
  have hF := fit_iff.1 (Decidable.not_not.1 hc)
  split
  · exact Keeps.refl s
  split
  · exact Keeps.tail s
  split
  · exact Keeps.tail s
  split
  · exact Keeps.tail s
  rename_i ht
  refine ⟨?_, by simp, fun _ => del_fit hF (Decidable.not_not.1 ht)⟩
  show (del s.objs _).length ≤ _
  rw [del_len (Decidable.not_not.1 ht).1]
  omega
theorem names_keeps (s : Sh) (front : ByteArray) : Keeps s (namesOf s front).1 := by
  unfold namesOf
  split
  · exact Keeps.refl s
  split
  · exact Keeps.tail s
  split
  · exact Keeps.tail s
  · exact Keeps.tail s

theorem names_le (s : Sh) (front : ByteArray) : (namesOf s front).2.1.length ≤ s.objs.length := by
  unfold namesOf
  split
  · exact Nat.zero_le _
  split
  · exact Nat.zero_le _
  split
  · exact Nat.zero_le _
  show (names _ _ _).length ≤ _
  have := names_len (f := fateOf s) (front := front) (l := s.objs) s.objs.length
  rwa [List.take_length] at this

/-- Whatever is called, each answer is the document's. -/
theorem plays6 (s : Sh) (l : List Ac) (hll : l.length ≤ 9223372036854775807) : Pure Try.prog 6 [sAV s, aAV l] (fun r => r = .b true) := by
  refine Pure.weak (Post := fun r => AVle r (.b true)) (Pure.of (XCall.bodyq is6 rfl ?_)) fun r h => ⟨_, rfl, h⟩
  unfold m6
  repeat (first | (refine Sq.nx ?_; try dsimp only [St.put, rn, rns, rid, rnH, rnB, dead, AV.cells, setAt, enumEnv, List.length_nil, List.length_cons, List.getElem?_nil, List.getElem?_cons_zero, List.getElem?_cons_succ, Nat.reduceAdd, Nat.reduceSub, Nat.add_zero]) | refine Bq.nx ?_ | refine Bq.hit rfl ?_ | refine Bq.miss rfl ?_ | refine Sq.ex ?_ | refine Sq.rt ?_ | refine Bq.rt ?_ | refine Lq.ex ?_ | refine Lq.rt ?_ | with_reducible refine seq.mk ?_ | with_reducible refine blk.mk ?_ )
  refine XCall.len (Exists.intro _ (And.intro (great8 s) (And.intro rfl ?_)))
  rintro r ⟨e, rfl, he⟩
  refine And.intro rfl ?_
  refine brk.mk (fun h => ?_) (fun h1 => ?_)
  · repeat (first | (refine Sq.nx ?_; try dsimp only [St.put, rn, rns, rid, rnH, rnB, dead, AV.cells, setAt, enumEnv, List.length_nil, List.length_cons, List.getElem?_nil, List.getElem?_cons_zero, List.getElem?_cons_succ, Nat.reduceAdd, Nat.reduceSub, Nat.add_zero]) | refine Bq.nx ?_ | refine Bq.hit rfl ?_ | refine Bq.miss rfl ?_ | refine Sq.ex ?_ | refine Sq.rt ?_ | refine Bq.rt ?_ | refine Lq.ex ?_ | refine Lq.rt ?_ | with_reducible refine seq.mk ?_ | with_reducible refine blk.mk ?_ )
    refine XCall.lenv awake11 rfl ?_
    refine And.intro rfl (And.intro (AVles.refl _) ?_)
    repeat (first | (refine Sq.nx ?_; try dsimp only [St.put, rn, rns, rid, rnH, rnB, dead, AV.cells, setAt, enumEnv, List.length_nil, List.length_cons, List.getElem?_nil, List.getElem?_cons_zero, List.getElem?_cons_succ, Nat.reduceAdd, Nat.reduceSub, Nat.add_zero]) | refine Bq.nx ?_ | refine Bq.hit rfl ?_ | refine Bq.miss rfl ?_ | refine Sq.ex ?_ | refine Sq.rt ?_ | refine Bq.rt ?_ | refine Lq.ex ?_ | refine Lq.rt ?_ | with_reducible refine seq.mk ?_ | with_reducible refine blk.mk ?_ )
    refine Rq.rt ?_
    exact And.intro rfl (AVle.refl _)
  have hsm := he (of_decide_eq_false h1)
  have hl : Small s := ⟨by have := hsm.1.1; omega, by have := hsm.1.2; omega⟩
  refine XCall.len (Exists.intro _ (And.intro (great19 l hll) (And.intro rfl ?_)))
  rintro r ⟨b, rfl, hb⟩
  refine And.intro rfl ?_
  repeat (first | (refine Sq.nx ?_; try dsimp only [St.put, rn, rns, rid, rnH, rnB, dead, AV.cells, setAt, enumEnv, List.length_nil, List.length_cons, List.getElem?_nil, List.getElem?_cons_zero, List.getElem?_cons_succ, Nat.reduceAdd, Nat.reduceSub, Nat.add_zero]) | refine Bq.nx ?_ | refine Bq.hit rfl ?_ | refine Bq.miss rfl ?_ | refine Sq.ex ?_ | refine Sq.rt ?_ | refine Bq.rt ?_ | refine Lq.ex ?_ | refine Lq.rt ?_ | with_reducible refine seq.mk ?_ | with_reducible refine blk.mk ?_ )
  refine brk.mk (fun h => ?_) (fun h2 => ?_)
  · repeat (first | (refine Sq.nx ?_; try dsimp only [St.put, rn, rns, rid, rnH, rnB, dead, AV.cells, setAt, enumEnv, List.length_nil, List.length_cons, List.getElem?_nil, List.getElem?_cons_zero, List.getElem?_cons_succ, Nat.reduceAdd, Nat.reduceSub, Nat.add_zero]) | refine Bq.nx ?_ | refine Bq.hit rfl ?_ | refine Bq.miss rfl ?_ | refine Sq.ex ?_ | refine Sq.rt ?_ | refine Bq.rt ?_ | refine Lq.ex ?_ | refine Lq.rt ?_ | with_reducible refine seq.mk ?_ | with_reducible refine blk.mk ?_ )
    refine XCall.lenv awake11 rfl ?_
    refine And.intro rfl (And.intro (AVles.refl _) ?_)
    repeat (first | (refine Sq.nx ?_; try dsimp only [St.put, rn, rns, rid, rnH, rnB, dead, AV.cells, setAt, enumEnv, List.length_nil, List.length_cons, List.getElem?_nil, List.getElem?_cons_zero, List.getElem?_cons_succ, Nat.reduceAdd, Nat.reduceSub, Nat.add_zero]) | refine Bq.nx ?_ | refine Bq.hit rfl ?_ | refine Bq.miss rfl ?_ | refine Sq.ex ?_ | refine Sq.rt ?_ | refine Bq.rt ?_ | refine Lq.ex ?_ | refine Lq.rt ?_ | with_reducible refine seq.mk ?_ | with_reducible refine blk.mk ?_ )
    refine Rq.rt ?_
    exact And.intro rfl (AVle.refl _)
  have hA := hb h2
  have hbig := hA.1
  repeat (first | (refine Sq.nx ?_; try dsimp only [St.put, rn, rns, rid, rnH, rnB, dead, AV.cells, setAt, enumEnv, List.length_nil, List.length_cons, List.getElem?_nil, List.getElem?_cons_zero, List.getElem?_cons_succ, Nat.reduceAdd, Nat.reduceSub, Nat.add_zero]) | refine Bq.nx ?_ | refine Bq.hit rfl ?_ | refine Bq.miss rfl ?_ | refine Sq.ex ?_ | refine Sq.rt ?_ | refine Bq.rt ?_ | refine Lq.ex ?_ | refine Lq.rt ?_ | with_reducible refine seq.mk ?_ | with_reducible refine blk.mk ?_ )
  refine XCall.lenv (check9 s hl.1) rfl ?_
  refine And.intro rfl (And.intro (AVles.refl _) ?_)
  repeat (first | (refine Sq.nx ?_; try dsimp only [St.put, rn, rns, rid, rnH, rnB, dead, AV.cells, setAt, enumEnv, List.length_nil, List.length_cons, List.getElem?_nil, List.getElem?_cons_zero, List.getElem?_cons_succ, Nat.reduceAdd, Nat.reduceSub, Nat.add_zero]) | refine Bq.nx ?_ | refine Bq.hit rfl ?_ | refine Bq.miss rfl ?_ | refine Sq.ex ?_ | refine Sq.rt ?_ | refine Bq.rt ?_ | refine Lq.ex ?_ | refine Lq.rt ?_ | with_reducible refine seq.mk ?_ | with_reducible refine blk.mk ?_ )
  have hfit0 : (check s.objs == 0) = true → Fit s.objs := fun h => fit_iff.1 (eq_of_beq h)
  generalize (check s.objs == 0) = fit at hfit0
  refine lp.mk (fun σ => ∃ (i : Nat) (t : Sh), i ≤ l.length ∧ t.objs.length ≤ 30 + i ∧ t.fates.length ≤ 100 ∧ (fit = true → Fit t.objs) ∧
    σ = ⟨[(1, aAV l), (2, .p 0 0), (5, .p 1 0), (6, .b fit), (7, .i .i64 (i : Int))],
      [(0, .lit [oAV t.objs, fAV t.fates]), (1, .lit [oAV t.objs, fAV t.fates])], 2⟩) (fun σ => (l.length - num 7 σ).toNat) ?_ ?_
  · refine ⟨_, Le.mk ?_ ?_ rfl rfl, 0, s, Nat.zero_le _, by have := hsm.1.1; omega, hsm.1.2, hfit0, rfl⟩
    · exact ⟨rfl, rfl, rfl, rfl, rfl, trivial⟩
    · exact ⟨rfl, rfl, trivial⟩
  rintro σ' ⟨i, t, hi, ht1, ht2, ht3, rfl⟩
  repeat (first | (refine Sq.nx ?_; try dsimp only [St.put, rn, rns, rid, rnH, rnB, dead, AV.cells, setAt, enumEnv, List.length_nil, List.length_cons, List.getElem?_nil, List.getElem?_cons_zero, List.getElem?_cons_succ, Nat.reduceAdd, Nat.reduceSub, Nat.add_zero]) | refine Bq.nx ?_ | refine Bq.hit rfl ?_ | refine Bq.miss rfl ?_ | refine Sq.ex ?_ | refine Sq.rt ?_ | refine Bq.rt ?_ | refine Lq.ex ?_ | refine Lq.rt ?_ | with_reducible refine seq.mk ?_ | with_reducible refine blk.mk ?_ )
  refine brk.mk (fun hc => ?_) (fun hc => ?_)
  · have hlt : i < l.length := by have := of_decide_eq_true hc; omega
    have hwrap : IntKind.i64.wrap ((i : Int) + 1) = ((i + 1 : Nat) : Int) := by rw [wrap_int (by omega) (by omega)]; omega
    have hsz : (l.getD i ac0).name.size ≤ 200 ∧ (l.getD i ac0).data.size ≤ 500 := by
      rw [getA hlt]
      exact hA.2 _ (List.getElem_mem hlt)
    have hlt2 : Small t := ⟨by omega, by omega⟩
    have ne : ∀ x : Int, (x != x) = true → False := fun x h => by simp at h
    have ns : ∀ x : ByteArray, (!(x.toList == x.toList)) = true → False := fun x h => by simp at h
    repeat (first | (refine Sq.nx ?_; try dsimp only [St.put, rn, rns, rid, rnH, rnB, dead, AV.cells, setAt, enumEnv, List.length_nil, List.length_cons, List.getElem?_nil, List.getElem?_cons_zero, List.getElem?_cons_succ, Nat.reduceAdd, Nat.reduceSub, Nat.add_zero]) | refine Bq.nx ?_ | refine Bq.hit rfl ?_ | refine Bq.miss rfl ?_ | refine Sq.ex ?_ | refine Sq.rt ?_ | refine Bq.rt ?_ | refine Lq.ex ?_ | refine Lq.rt ?_ | with_reducible refine seq.mk ?_ | with_reducible refine blk.mk ?_ )
    refine Exists.intro i ?_
    refine And.intro rfl ?_
    refine And.intro hlt ?_
    repeat (first | (refine Sq.nx ?_; try dsimp only [St.put, rn, rns, rid, rnH, rnB, dead, AV.cells, setAt, enumEnv, List.length_nil, List.length_cons, List.getElem?_nil, List.getElem?_cons_zero, List.getElem?_cons_succ, Nat.reduceAdd, Nat.reduceSub, Nat.add_zero]) | refine Bq.nx ?_ | refine Bq.hit rfl ?_ | refine Bq.miss rfl ?_ | refine Sq.ex ?_ | refine Sq.rt ?_ | refine Bq.rt ?_ | refine Lq.ex ?_ | refine Lq.rt ?_ | with_reducible refine seq.mk ?_ | with_reducible refine blk.mk ?_ )
    refine brk.mk (fun _ => ?_) (fun _ => ?_)
    · repeat (first | (refine Sq.nx ?_; try dsimp only [St.put, rn, rns, rid, rnH, rnB, dead, AV.cells, setAt, enumEnv, List.length_nil, List.length_cons, List.getElem?_nil, List.getElem?_cons_zero, List.getElem?_cons_succ, Nat.reduceAdd, Nat.reduceSub, Nat.add_zero]) | refine Bq.nx ?_ | refine Bq.hit rfl ?_ | refine Bq.miss rfl ?_ | refine Sq.ex ?_ | refine Sq.rt ?_ | refine Bq.rt ?_ | refine Lq.ex ?_ | refine Lq.rt ?_ | with_reducible refine seq.mk ?_ | with_reducible refine blk.mk ?_ )
      have p1 := put13 t (l.getD i ac0).name (l.getD i ac0).data hlt2 (by omega)
      have p2 := put20 t (l.getD i ac0).name (l.getD i ac0).data hlt2
      have hk := put_keeps t (l.getD i ac0).name (l.getD i ac0).data
      revert p1 p2 hk
      generalize put t (l.getD i ac0).name (l.getD i ac0).data = r
      obtain ⟨⟨o', f'⟩, e⟩ := r
      intro p1 p2 hk
      have hk1 : o'.length ≤ 30 + (i + 1) := by have := hk.objs; dsimp only at this; omega
      have hk2 : f'.length ≤ 100 := by have := hk.fates; dsimp only at this; omega
      have hk3 : Fit t.objs → Fit o' := hk.fit
      have hl' : Small ⟨o', f'⟩ := ⟨by show o'.length ≤ _; omega, by show f'.length ≤ _; omega⟩
      refine XCall.givv p1 ?_
      refine And.intro rfl (And.intro (AVles.refl _) ?_)
      repeat (first | (refine Sq.nx ?_; try dsimp only [St.put, rn, rns, rid, rnH, rnB, dead, AV.cells, setAt, enumEnv, List.length_nil, List.length_cons, List.getElem?_nil, List.getElem?_cons_zero, List.getElem?_cons_succ, Nat.reduceAdd, Nat.reduceSub, Nat.add_zero]) | refine Bq.nx ?_ | refine Bq.hit rfl ?_ | refine Bq.miss rfl ?_ | refine Sq.ex ?_ | refine Sq.rt ?_ | refine Bq.rt ?_ | refine Lq.ex ?_ | refine Lq.rt ?_ | with_reducible refine seq.mk ?_ | with_reducible refine blk.mk ?_ )
      refine XCall.givv p2 ?_
      refine And.intro rfl (And.intro (AVles.refl _) ?_)
      repeat (first | (refine Sq.nx ?_; try dsimp only [St.put, rn, rns, rid, rnH, rnB, dead, AV.cells, setAt, enumEnv, List.length_nil, List.length_cons, List.getElem?_nil, List.getElem?_cons_zero, List.getElem?_cons_succ, Nat.reduceAdd, Nat.reduceSub, Nat.add_zero]) | refine Bq.nx ?_ | refine Bq.hit rfl ?_ | refine Bq.miss rfl ?_ | refine Sq.ex ?_ | refine Sq.rt ?_ | refine Bq.rt ?_ | refine Lq.ex ?_ | refine Lq.rt ?_ | with_reducible refine seq.mk ?_ | with_reducible refine blk.mk ?_ )
      refine brk.mk (fun h => (ne _ h).elim) (fun _ => ?_)
      refine brk.mk (fun h => (ns _ h).elim) (fun _ => ?_)
      refine brk.mk (fun h => (ne _ h).elim) (fun _ => ?_)
      refine XCall.lenv (same18 ⟨o', f'⟩ hl') rfl ?_
      refine And.intro rfl (And.intro (AVles.refl _) ?_)
      refine brk.mk (fun h => by cases h) (fun _ => ?_)
      refine brk.mk (fun hfit => ?_) (fun hfit => ?_)
      · refine XCall.lenv (check17 ⟨o', f'⟩ hl'.1) rfl ?_
        refine And.intro rfl (And.intro (AVles.refl _) ?_)
        repeat (first | (refine Sq.nx ?_; try dsimp only [St.put, rn, rns, rid, rnH, rnB, dead, AV.cells, setAt, enumEnv, List.length_nil, List.length_cons, List.getElem?_nil, List.getElem?_cons_zero, List.getElem?_cons_succ, Nat.reduceAdd, Nat.reduceSub, Nat.add_zero]) | refine Bq.nx ?_ | refine Bq.hit rfl ?_ | refine Bq.miss rfl ?_ | refine Sq.ex ?_ | refine Sq.rt ?_ | refine Bq.rt ?_ | refine Lq.ex ?_ | refine Lq.rt ?_ | with_reducible refine seq.mk ?_ | with_reducible refine blk.mk ?_ )
        refine brk.mk (fun h => absurd (fit_iff.2 (hk3 (ht3 hfit))) (bne_t h)) (fun _ => ?_)
        repeat (first | (refine Sq.nx ?_; try dsimp only [St.put, rn, rns, rid, rnH, rnB, dead, AV.cells, setAt, enumEnv, List.length_nil, List.length_cons, List.getElem?_nil, List.getElem?_cons_zero, List.getElem?_cons_succ, Nat.reduceAdd, Nat.reduceSub, Nat.add_zero]) | refine Bq.nx ?_ | refine Bq.hit rfl ?_ | refine Bq.miss rfl ?_ | refine Sq.ex ?_ | refine Sq.rt ?_ | refine Bq.rt ?_ | refine Lq.ex ?_ | refine Lq.rt ?_ | with_reducible refine seq.mk ?_ | with_reducible refine blk.mk ?_ )
        refine lp.mk (fun σ => σ = ⟨[(1, aAV l), (2, .p 0 0), (5, .p 1 0), (6, .b fit), (7, .i .i64 (i : Int)), (13, .sa 3 1 0 0), (15, .i .i64 0)],
          [(0, .lit [oAV o', fAV f']), (1, .lit [oAV o', fAV f'])], 5⟩) (fun σ => 0) ?_ ?_
        · refine ⟨_, Le.mk ?_ ?_ rfl rfl, rfl⟩
          · exact ⟨rfl, rfl, rfl, rfl, rfl, rfl, rfl, trivial⟩
          · exact ⟨rfl, rfl, trivial⟩
        rintro σ' rfl
        repeat (first | (refine Sq.nx ?_; try dsimp only [St.put, rn, rns, rid, rnH, rnB, dead, AV.cells, setAt, enumEnv, List.length_nil, List.length_cons, List.getElem?_nil, List.getElem?_cons_zero, List.getElem?_cons_succ, Nat.reduceAdd, Nat.reduceSub, Nat.add_zero]) | refine Bq.nx ?_ | refine Bq.hit rfl ?_ | refine Bq.miss rfl ?_ | refine Sq.ex ?_ | refine Sq.rt ?_ | refine Bq.rt ?_ | refine Lq.ex ?_ | refine Lq.rt ?_ | with_reducible refine seq.mk ?_ | with_reducible refine blk.mk ?_ )
        refine brk.mk (fun h => absurd (of_decide_eq_true h) (by decide)) (fun _ => ?_)
        repeat (first | (refine Sq.nx ?_; try dsimp only [St.put, rn, rns, rid, rnH, rnB, dead, AV.cells, setAt, enumEnv, List.length_nil, List.length_cons, List.getElem?_nil, List.getElem?_cons_zero, List.getElem?_cons_succ, Nat.reduceAdd, Nat.reduceSub, Nat.add_zero]) | refine Bq.nx ?_ | refine Bq.hit rfl ?_ | refine Bq.miss rfl ?_ | refine Sq.ex ?_ | refine Sq.rt ?_ | refine Bq.rt ?_ | refine Lq.ex ?_ | refine Lq.rt ?_ | with_reducible refine seq.mk ?_ | with_reducible refine blk.mk ?_ )
        refine Lq.nx _ (Le.mk ?_ ?_ rfl rfl) ⟨i + 1, ⟨o', f'⟩, hlt, hk1, hk2, fun hh => hk3 (ht3 hh), rfl⟩ ?_
        · exact ⟨rfl, rfl, rfl, rfl, congrArg (AV.i .i64) hwrap, trivial⟩
        · exact ⟨rfl, rfl, trivial⟩
        · show (_ - ((i + 1 : Nat) : Int)).toNat < (_ - (i : Int)).toNat
          omega
      · repeat (first | (refine Sq.nx ?_; try dsimp only [St.put, rn, rns, rid, rnH, rnB, dead, AV.cells, setAt, enumEnv, List.length_nil, List.length_cons, List.getElem?_nil, List.getElem?_cons_zero, List.getElem?_cons_succ, Nat.reduceAdd, Nat.reduceSub, Nat.add_zero]) | refine Bq.nx ?_ | refine Bq.hit rfl ?_ | refine Bq.miss rfl ?_ | refine Sq.ex ?_ | refine Sq.rt ?_ | refine Bq.rt ?_ | refine Lq.ex ?_ | refine Lq.rt ?_ | with_reducible refine seq.mk ?_ | with_reducible refine blk.mk ?_ )
        repeat (first | (refine Sq.nx ?_; try dsimp only [St.put, rn, rns, rid, rnH, rnB, dead, AV.cells, setAt, enumEnv, List.length_nil, List.length_cons, List.getElem?_nil, List.getElem?_cons_zero, List.getElem?_cons_succ, Nat.reduceAdd, Nat.reduceSub, Nat.add_zero]) | refine Bq.nx ?_ | refine Bq.hit rfl ?_ | refine Bq.miss rfl ?_ | refine Sq.ex ?_ | refine Sq.rt ?_ | refine Bq.rt ?_ | refine Lq.ex ?_ | refine Lq.rt ?_ | with_reducible refine seq.mk ?_ | with_reducible refine blk.mk ?_ )
        refine lp.mk (fun σ => σ = ⟨[(1, aAV l), (2, .p 0 0), (5, .p 1 0), (6, .b fit), (7, .i .i64 (i : Int)), (13, .sa 3 1 0 0), (15, .i .i64 0)],
          [(0, .lit [oAV o', fAV f']), (1, .lit [oAV o', fAV f'])], 5⟩) (fun σ => 0) ?_ ?_
        · refine ⟨_, Le.mk ?_ ?_ rfl rfl, rfl⟩
          · exact ⟨rfl, rfl, rfl, rfl, rfl, rfl, rfl, trivial⟩
          · exact ⟨rfl, rfl, trivial⟩
        rintro σ' rfl
        repeat (first | (refine Sq.nx ?_; try dsimp only [St.put, rn, rns, rid, rnH, rnB, dead, AV.cells, setAt, enumEnv, List.length_nil, List.length_cons, List.getElem?_nil, List.getElem?_cons_zero, List.getElem?_cons_succ, Nat.reduceAdd, Nat.reduceSub, Nat.add_zero]) | refine Bq.nx ?_ | refine Bq.hit rfl ?_ | refine Bq.miss rfl ?_ | refine Sq.ex ?_ | refine Sq.rt ?_ | refine Bq.rt ?_ | refine Lq.ex ?_ | refine Lq.rt ?_ | with_reducible refine seq.mk ?_ | with_reducible refine blk.mk ?_ )
        refine brk.mk (fun h => absurd (of_decide_eq_true h) (by decide)) (fun _ => ?_)
        repeat (first | (refine Sq.nx ?_; try dsimp only [St.put, rn, rns, rid, rnH, rnB, dead, AV.cells, setAt, enumEnv, List.length_nil, List.length_cons, List.getElem?_nil, List.getElem?_cons_zero, List.getElem?_cons_succ, Nat.reduceAdd, Nat.reduceSub, Nat.add_zero]) | refine Bq.nx ?_ | refine Bq.hit rfl ?_ | refine Bq.miss rfl ?_ | refine Sq.ex ?_ | refine Sq.rt ?_ | refine Bq.rt ?_ | refine Lq.ex ?_ | refine Lq.rt ?_ | with_reducible refine seq.mk ?_ | with_reducible refine blk.mk ?_ )
        refine Lq.nx _ (Le.mk ?_ ?_ rfl rfl) ⟨i + 1, ⟨o', f'⟩, hlt, hk1, hk2, fun hh => hk3 (ht3 hh), rfl⟩ ?_
        · exact ⟨rfl, rfl, rfl, rfl, congrArg (AV.i .i64) hwrap, trivial⟩
        · exact ⟨rfl, rfl, trivial⟩
        · show (_ - ((i + 1 : Nat) : Int)).toNat < (_ - (i : Int)).toNat
          omega
    repeat (first | (refine Sq.nx ?_; try dsimp only [St.put, rn, rns, rid, rnH, rnB, dead, AV.cells, setAt, enumEnv, List.length_nil, List.length_cons, List.getElem?_nil, List.getElem?_cons_zero, List.getElem?_cons_succ, Nat.reduceAdd, Nat.reduceSub, Nat.add_zero]) | refine Bq.nx ?_ | refine Bq.hit rfl ?_ | refine Bq.miss rfl ?_ | refine Sq.ex ?_ | refine Sq.rt ?_ | refine Bq.rt ?_ | refine Lq.ex ?_ | refine Lq.rt ?_ | with_reducible refine seq.mk ?_ | with_reducible refine blk.mk ?_ )
    refine brk.mk (fun _ => ?_) (fun _ => ?_)
    · repeat (first | (refine Sq.nx ?_; try dsimp only [St.put, rn, rns, rid, rnH, rnB, dead, AV.cells, setAt, enumEnv, List.length_nil, List.length_cons, List.getElem?_nil, List.getElem?_cons_zero, List.getElem?_cons_succ, Nat.reduceAdd, Nat.reduceSub, Nat.add_zero]) | refine Bq.nx ?_ | refine Bq.hit rfl ?_ | refine Bq.miss rfl ?_ | refine Sq.ex ?_ | refine Sq.rt ?_ | refine Bq.rt ?_ | refine Lq.ex ?_ | refine Lq.rt ?_ | with_reducible refine seq.mk ?_ | with_reducible refine blk.mk ?_ )
      have p1 := get12 t (l.getD i ac0).name hlt2
      have p2 := get21 t (l.getD i ac0).name hlt2
      have hk := get_keeps t (l.getD i ac0).name
      revert p1 p2 hk
      generalize get t (l.getD i ac0).name = r
      obtain ⟨⟨o', f'⟩, got, e⟩ := r
      intro p1 p2 hk
      have hk1 : o'.length ≤ 30 + (i + 1) := by have := hk.objs; dsimp only at this; omega
      have hk2 : f'.length ≤ 100 := by have := hk.fates; dsimp only at this; omega
      have hk3 : Fit t.objs → Fit o' := hk.fit
      have hl' : Small ⟨o', f'⟩ := ⟨by show o'.length ≤ _; omega, by show f'.length ≤ _; omega⟩
      refine XCall.givv p1 ?_
      refine And.intro rfl (And.intro (AVles.refl _) ?_)
      repeat (first | (refine Sq.nx ?_; try dsimp only [St.put, rn, rns, rid, rnH, rnB, dead, AV.cells, setAt, enumEnv, List.length_nil, List.length_cons, List.getElem?_nil, List.getElem?_cons_zero, List.getElem?_cons_succ, Nat.reduceAdd, Nat.reduceSub, Nat.add_zero]) | refine Bq.nx ?_ | refine Bq.hit rfl ?_ | refine Bq.miss rfl ?_ | refine Sq.ex ?_ | refine Sq.rt ?_ | refine Bq.rt ?_ | refine Lq.ex ?_ | refine Lq.rt ?_ | with_reducible refine seq.mk ?_ | with_reducible refine blk.mk ?_ )
      refine XCall.givv p2 ?_
      refine And.intro rfl (And.intro (AVles.refl _) ?_)
      repeat (first | (refine Sq.nx ?_; try dsimp only [St.put, rn, rns, rid, rnH, rnB, dead, AV.cells, setAt, enumEnv, List.length_nil, List.length_cons, List.getElem?_nil, List.getElem?_cons_zero, List.getElem?_cons_succ, Nat.reduceAdd, Nat.reduceSub, Nat.add_zero]) | refine Bq.nx ?_ | refine Bq.hit rfl ?_ | refine Bq.miss rfl ?_ | refine Sq.ex ?_ | refine Sq.rt ?_ | refine Bq.rt ?_ | refine Lq.ex ?_ | refine Lq.rt ?_ | with_reducible refine seq.mk ?_ | with_reducible refine blk.mk ?_ )
      refine brk.mk (fun h => (ne _ h).elim) (fun _ => ?_)
      refine brk.mk (fun h => (ns _ h).elim) (fun _ => ?_)
      refine brk.mk (fun h => (ne _ h).elim) (fun _ => ?_)
      refine XCall.lenv (same18 ⟨o', f'⟩ hl') rfl ?_
      refine And.intro rfl (And.intro (AVles.refl _) ?_)
      refine brk.mk (fun h => by cases h) (fun _ => ?_)
      refine brk.mk (fun hfit => ?_) (fun hfit => ?_)
      · refine XCall.lenv (check17 ⟨o', f'⟩ hl'.1) rfl ?_
        refine And.intro rfl (And.intro (AVles.refl _) ?_)
        repeat (first | (refine Sq.nx ?_; try dsimp only [St.put, rn, rns, rid, rnH, rnB, dead, AV.cells, setAt, enumEnv, List.length_nil, List.length_cons, List.getElem?_nil, List.getElem?_cons_zero, List.getElem?_cons_succ, Nat.reduceAdd, Nat.reduceSub, Nat.add_zero]) | refine Bq.nx ?_ | refine Bq.hit rfl ?_ | refine Bq.miss rfl ?_ | refine Sq.ex ?_ | refine Sq.rt ?_ | refine Bq.rt ?_ | refine Lq.ex ?_ | refine Lq.rt ?_ | with_reducible refine seq.mk ?_ | with_reducible refine blk.mk ?_ )
        refine brk.mk (fun h => absurd (fit_iff.2 (hk3 (ht3 hfit))) (bne_t h)) (fun _ => ?_)
        repeat (first | (refine Sq.nx ?_; try dsimp only [St.put, rn, rns, rid, rnH, rnB, dead, AV.cells, setAt, enumEnv, List.length_nil, List.length_cons, List.getElem?_nil, List.getElem?_cons_zero, List.getElem?_cons_succ, Nat.reduceAdd, Nat.reduceSub, Nat.add_zero]) | refine Bq.nx ?_ | refine Bq.hit rfl ?_ | refine Bq.miss rfl ?_ | refine Sq.ex ?_ | refine Sq.rt ?_ | refine Bq.rt ?_ | refine Lq.ex ?_ | refine Lq.rt ?_ | with_reducible refine seq.mk ?_ | with_reducible refine blk.mk ?_ )
        refine lp.mk (fun σ => σ = ⟨[(1, aAV l), (2, .p 0 0), (5, .p 1 0), (6, .b fit), (7, .i .i64 (i : Int)), (13, .sa 3 1 0 0), (15, .i .i64 0)],
          [(0, .lit [oAV o', fAV f']), (1, .lit [oAV o', fAV f'])], 5⟩) (fun σ => 0) ?_ ?_
        · refine ⟨_, Le.mk ?_ ?_ rfl rfl, rfl⟩
          · exact ⟨rfl, rfl, rfl, rfl, rfl, rfl, rfl, trivial⟩
          · exact ⟨rfl, rfl, trivial⟩
        rintro σ' rfl
        repeat (first | (refine Sq.nx ?_; try dsimp only [St.put, rn, rns, rid, rnH, rnB, dead, AV.cells, setAt, enumEnv, List.length_nil, List.length_cons, List.getElem?_nil, List.getElem?_cons_zero, List.getElem?_cons_succ, Nat.reduceAdd, Nat.reduceSub, Nat.add_zero]) | refine Bq.nx ?_ | refine Bq.hit rfl ?_ | refine Bq.miss rfl ?_ | refine Sq.ex ?_ | refine Sq.rt ?_ | refine Bq.rt ?_ | refine Lq.ex ?_ | refine Lq.rt ?_ | with_reducible refine seq.mk ?_ | with_reducible refine blk.mk ?_ )
        refine brk.mk (fun h => absurd (of_decide_eq_true h) (by decide)) (fun _ => ?_)
        repeat (first | (refine Sq.nx ?_; try dsimp only [St.put, rn, rns, rid, rnH, rnB, dead, AV.cells, setAt, enumEnv, List.length_nil, List.length_cons, List.getElem?_nil, List.getElem?_cons_zero, List.getElem?_cons_succ, Nat.reduceAdd, Nat.reduceSub, Nat.add_zero]) | refine Bq.nx ?_ | refine Bq.hit rfl ?_ | refine Bq.miss rfl ?_ | refine Sq.ex ?_ | refine Sq.rt ?_ | refine Bq.rt ?_ | refine Lq.ex ?_ | refine Lq.rt ?_ | with_reducible refine seq.mk ?_ | with_reducible refine blk.mk ?_ )
        refine Lq.nx _ (Le.mk ?_ ?_ rfl rfl) ⟨i + 1, ⟨o', f'⟩, hlt, hk1, hk2, fun hh => hk3 (ht3 hh), rfl⟩ ?_
        · exact ⟨rfl, rfl, rfl, rfl, congrArg (AV.i .i64) hwrap, trivial⟩
        · exact ⟨rfl, rfl, trivial⟩
        · show (_ - ((i + 1 : Nat) : Int)).toNat < (_ - (i : Int)).toNat
          omega
      · repeat (first | (refine Sq.nx ?_; try dsimp only [St.put, rn, rns, rid, rnH, rnB, dead, AV.cells, setAt, enumEnv, List.length_nil, List.length_cons, List.getElem?_nil, List.getElem?_cons_zero, List.getElem?_cons_succ, Nat.reduceAdd, Nat.reduceSub, Nat.add_zero]) | refine Bq.nx ?_ | refine Bq.hit rfl ?_ | refine Bq.miss rfl ?_ | refine Sq.ex ?_ | refine Sq.rt ?_ | refine Bq.rt ?_ | refine Lq.ex ?_ | refine Lq.rt ?_ | with_reducible refine seq.mk ?_ | with_reducible refine blk.mk ?_ )
        repeat (first | (refine Sq.nx ?_; try dsimp only [St.put, rn, rns, rid, rnH, rnB, dead, AV.cells, setAt, enumEnv, List.length_nil, List.length_cons, List.getElem?_nil, List.getElem?_cons_zero, List.getElem?_cons_succ, Nat.reduceAdd, Nat.reduceSub, Nat.add_zero]) | refine Bq.nx ?_ | refine Bq.hit rfl ?_ | refine Bq.miss rfl ?_ | refine Sq.ex ?_ | refine Sq.rt ?_ | refine Bq.rt ?_ | refine Lq.ex ?_ | refine Lq.rt ?_ | with_reducible refine seq.mk ?_ | with_reducible refine blk.mk ?_ )
        refine lp.mk (fun σ => σ = ⟨[(1, aAV l), (2, .p 0 0), (5, .p 1 0), (6, .b fit), (7, .i .i64 (i : Int)), (13, .sa 3 1 0 0), (15, .i .i64 0)],
          [(0, .lit [oAV o', fAV f']), (1, .lit [oAV o', fAV f'])], 5⟩) (fun σ => 0) ?_ ?_
        · refine ⟨_, Le.mk ?_ ?_ rfl rfl, rfl⟩
          · exact ⟨rfl, rfl, rfl, rfl, rfl, rfl, rfl, trivial⟩
          · exact ⟨rfl, rfl, trivial⟩
        rintro σ' rfl
        repeat (first | (refine Sq.nx ?_; try dsimp only [St.put, rn, rns, rid, rnH, rnB, dead, AV.cells, setAt, enumEnv, List.length_nil, List.length_cons, List.getElem?_nil, List.getElem?_cons_zero, List.getElem?_cons_succ, Nat.reduceAdd, Nat.reduceSub, Nat.add_zero]) | refine Bq.nx ?_ | refine Bq.hit rfl ?_ | refine Bq.miss rfl ?_ | refine Sq.ex ?_ | refine Sq.rt ?_ | refine Bq.rt ?_ | refine Lq.ex ?_ | refine Lq.rt ?_ | with_reducible refine seq.mk ?_ | with_reducible refine blk.mk ?_ )
        refine brk.mk (fun h => absurd (of_decide_eq_true h) (by decide)) (fun _ => ?_)
        repeat (first | (refine Sq.nx ?_; try dsimp only [St.put, rn, rns, rid, rnH, rnB, dead, AV.cells, setAt, enumEnv, List.length_nil, List.length_cons, List.getElem?_nil, List.getElem?_cons_zero, List.getElem?_cons_succ, Nat.reduceAdd, Nat.reduceSub, Nat.add_zero]) | refine Bq.nx ?_ | refine Bq.hit rfl ?_ | refine Bq.miss rfl ?_ | refine Sq.ex ?_ | refine Sq.rt ?_ | refine Bq.rt ?_ | refine Lq.ex ?_ | refine Lq.rt ?_ | with_reducible refine seq.mk ?_ | with_reducible refine blk.mk ?_ )
        refine Lq.nx _ (Le.mk ?_ ?_ rfl rfl) ⟨i + 1, ⟨o', f'⟩, hlt, hk1, hk2, fun hh => hk3 (ht3 hh), rfl⟩ ?_
        · exact ⟨rfl, rfl, rfl, rfl, congrArg (AV.i .i64) hwrap, trivial⟩
        · exact ⟨rfl, rfl, trivial⟩
        · show (_ - ((i + 1 : Nat) : Int)).toNat < (_ - (i : Int)).toNat
          omega
    repeat (first | (refine Sq.nx ?_; try dsimp only [St.put, rn, rns, rid, rnH, rnB, dead, AV.cells, setAt, enumEnv, List.length_nil, List.length_cons, List.getElem?_nil, List.getElem?_cons_zero, List.getElem?_cons_succ, Nat.reduceAdd, Nat.reduceSub, Nat.add_zero]) | refine Bq.nx ?_ | refine Bq.hit rfl ?_ | refine Bq.miss rfl ?_ | refine Sq.ex ?_ | refine Sq.rt ?_ | refine Bq.rt ?_ | refine Lq.ex ?_ | refine Lq.rt ?_ | with_reducible refine seq.mk ?_ | with_reducible refine blk.mk ?_ )
    refine brk.mk (fun _ => ?_) (fun _ => ?_)
    · repeat (first | (refine Sq.nx ?_; try dsimp only [St.put, rn, rns, rid, rnH, rnB, dead, AV.cells, setAt, enumEnv, List.length_nil, List.length_cons, List.getElem?_nil, List.getElem?_cons_zero, List.getElem?_cons_succ, Nat.reduceAdd, Nat.reduceSub, Nat.add_zero]) | refine Bq.nx ?_ | refine Bq.hit rfl ?_ | refine Bq.miss rfl ?_ | refine Sq.ex ?_ | refine Sq.rt ?_ | refine Bq.rt ?_ | refine Lq.ex ?_ | refine Lq.rt ?_ | with_reducible refine seq.mk ?_ | with_reducible refine blk.mk ?_ )
      have p1 := drop16 t (l.getD i ac0).name hlt2
      have p2 := drop22 t (l.getD i ac0).name hlt2
      have hk := drop_keeps t (l.getD i ac0).name
      revert p1 p2 hk
      generalize drop t (l.getD i ac0).name = r
      obtain ⟨⟨o', f'⟩, e⟩ := r
      intro p1 p2 hk
      have hk1 : o'.length ≤ 30 + (i + 1) := by have := hk.objs; dsimp only at this; omega
      have hk2 : f'.length ≤ 100 := by have := hk.fates; dsimp only at this; omega
      have hk3 : Fit t.objs → Fit o' := hk.fit
      have hl' : Small ⟨o', f'⟩ := ⟨by show o'.length ≤ _; omega, by show f'.length ≤ _; omega⟩
      refine XCall.givv p1 ?_
      refine And.intro rfl (And.intro (AVles.refl _) ?_)
      repeat (first | (refine Sq.nx ?_; try dsimp only [St.put, rn, rns, rid, rnH, rnB, dead, AV.cells, setAt, enumEnv, List.length_nil, List.length_cons, List.getElem?_nil, List.getElem?_cons_zero, List.getElem?_cons_succ, Nat.reduceAdd, Nat.reduceSub, Nat.add_zero]) | refine Bq.nx ?_ | refine Bq.hit rfl ?_ | refine Bq.miss rfl ?_ | refine Sq.ex ?_ | refine Sq.rt ?_ | refine Bq.rt ?_ | refine Lq.ex ?_ | refine Lq.rt ?_ | with_reducible refine seq.mk ?_ | with_reducible refine blk.mk ?_ )
      refine XCall.givv p2 ?_
      refine And.intro rfl (And.intro (AVles.refl _) ?_)
      repeat (first | (refine Sq.nx ?_; try dsimp only [St.put, rn, rns, rid, rnH, rnB, dead, AV.cells, setAt, enumEnv, List.length_nil, List.length_cons, List.getElem?_nil, List.getElem?_cons_zero, List.getElem?_cons_succ, Nat.reduceAdd, Nat.reduceSub, Nat.add_zero]) | refine Bq.nx ?_ | refine Bq.hit rfl ?_ | refine Bq.miss rfl ?_ | refine Sq.ex ?_ | refine Sq.rt ?_ | refine Bq.rt ?_ | refine Lq.ex ?_ | refine Lq.rt ?_ | with_reducible refine seq.mk ?_ | with_reducible refine blk.mk ?_ )
      refine brk.mk (fun h => (ne _ h).elim) (fun _ => ?_)
      refine brk.mk (fun h => (ns _ h).elim) (fun _ => ?_)
      refine brk.mk (fun h => (ne _ h).elim) (fun _ => ?_)
      refine XCall.lenv (same18 ⟨o', f'⟩ hl') rfl ?_
      refine And.intro rfl (And.intro (AVles.refl _) ?_)
      refine brk.mk (fun h => by cases h) (fun _ => ?_)
      refine brk.mk (fun hfit => ?_) (fun hfit => ?_)
      · refine XCall.lenv (check17 ⟨o', f'⟩ hl'.1) rfl ?_
        refine And.intro rfl (And.intro (AVles.refl _) ?_)
        repeat (first | (refine Sq.nx ?_; try dsimp only [St.put, rn, rns, rid, rnH, rnB, dead, AV.cells, setAt, enumEnv, List.length_nil, List.length_cons, List.getElem?_nil, List.getElem?_cons_zero, List.getElem?_cons_succ, Nat.reduceAdd, Nat.reduceSub, Nat.add_zero]) | refine Bq.nx ?_ | refine Bq.hit rfl ?_ | refine Bq.miss rfl ?_ | refine Sq.ex ?_ | refine Sq.rt ?_ | refine Bq.rt ?_ | refine Lq.ex ?_ | refine Lq.rt ?_ | with_reducible refine seq.mk ?_ | with_reducible refine blk.mk ?_ )
        refine brk.mk (fun h => absurd (fit_iff.2 (hk3 (ht3 hfit))) (bne_t h)) (fun _ => ?_)
        repeat (first | (refine Sq.nx ?_; try dsimp only [St.put, rn, rns, rid, rnH, rnB, dead, AV.cells, setAt, enumEnv, List.length_nil, List.length_cons, List.getElem?_nil, List.getElem?_cons_zero, List.getElem?_cons_succ, Nat.reduceAdd, Nat.reduceSub, Nat.add_zero]) | refine Bq.nx ?_ | refine Bq.hit rfl ?_ | refine Bq.miss rfl ?_ | refine Sq.ex ?_ | refine Sq.rt ?_ | refine Bq.rt ?_ | refine Lq.ex ?_ | refine Lq.rt ?_ | with_reducible refine seq.mk ?_ | with_reducible refine blk.mk ?_ )
        refine lp.mk (fun σ => σ = ⟨[(1, aAV l), (2, .p 0 0), (5, .p 1 0), (6, .b fit), (7, .i .i64 (i : Int)), (13, .sa 3 1 0 0), (15, .i .i64 0)],
          [(0, .lit [oAV o', fAV f']), (1, .lit [oAV o', fAV f'])], 5⟩) (fun σ => 0) ?_ ?_
        · refine ⟨_, Le.mk ?_ ?_ rfl rfl, rfl⟩
          · exact ⟨rfl, rfl, rfl, rfl, rfl, rfl, rfl, trivial⟩
          · exact ⟨rfl, rfl, trivial⟩
        rintro σ' rfl
        repeat (first | (refine Sq.nx ?_; try dsimp only [St.put, rn, rns, rid, rnH, rnB, dead, AV.cells, setAt, enumEnv, List.length_nil, List.length_cons, List.getElem?_nil, List.getElem?_cons_zero, List.getElem?_cons_succ, Nat.reduceAdd, Nat.reduceSub, Nat.add_zero]) | refine Bq.nx ?_ | refine Bq.hit rfl ?_ | refine Bq.miss rfl ?_ | refine Sq.ex ?_ | refine Sq.rt ?_ | refine Bq.rt ?_ | refine Lq.ex ?_ | refine Lq.rt ?_ | with_reducible refine seq.mk ?_ | with_reducible refine blk.mk ?_ )
        refine brk.mk (fun h => absurd (of_decide_eq_true h) (by decide)) (fun _ => ?_)
        repeat (first | (refine Sq.nx ?_; try dsimp only [St.put, rn, rns, rid, rnH, rnB, dead, AV.cells, setAt, enumEnv, List.length_nil, List.length_cons, List.getElem?_nil, List.getElem?_cons_zero, List.getElem?_cons_succ, Nat.reduceAdd, Nat.reduceSub, Nat.add_zero]) | refine Bq.nx ?_ | refine Bq.hit rfl ?_ | refine Bq.miss rfl ?_ | refine Sq.ex ?_ | refine Sq.rt ?_ | refine Bq.rt ?_ | refine Lq.ex ?_ | refine Lq.rt ?_ | with_reducible refine seq.mk ?_ | with_reducible refine blk.mk ?_ )
        refine Lq.nx _ (Le.mk ?_ ?_ rfl rfl) ⟨i + 1, ⟨o', f'⟩, hlt, hk1, hk2, fun hh => hk3 (ht3 hh), rfl⟩ ?_
        · exact ⟨rfl, rfl, rfl, rfl, congrArg (AV.i .i64) hwrap, trivial⟩
        · exact ⟨rfl, rfl, trivial⟩
        · show (_ - ((i + 1 : Nat) : Int)).toNat < (_ - (i : Int)).toNat
          omega
      · repeat (first | (refine Sq.nx ?_; try dsimp only [St.put, rn, rns, rid, rnH, rnB, dead, AV.cells, setAt, enumEnv, List.length_nil, List.length_cons, List.getElem?_nil, List.getElem?_cons_zero, List.getElem?_cons_succ, Nat.reduceAdd, Nat.reduceSub, Nat.add_zero]) | refine Bq.nx ?_ | refine Bq.hit rfl ?_ | refine Bq.miss rfl ?_ | refine Sq.ex ?_ | refine Sq.rt ?_ | refine Bq.rt ?_ | refine Lq.ex ?_ | refine Lq.rt ?_ | with_reducible refine seq.mk ?_ | with_reducible refine blk.mk ?_ )
        repeat (first | (refine Sq.nx ?_; try dsimp only [St.put, rn, rns, rid, rnH, rnB, dead, AV.cells, setAt, enumEnv, List.length_nil, List.length_cons, List.getElem?_nil, List.getElem?_cons_zero, List.getElem?_cons_succ, Nat.reduceAdd, Nat.reduceSub, Nat.add_zero]) | refine Bq.nx ?_ | refine Bq.hit rfl ?_ | refine Bq.miss rfl ?_ | refine Sq.ex ?_ | refine Sq.rt ?_ | refine Bq.rt ?_ | refine Lq.ex ?_ | refine Lq.rt ?_ | with_reducible refine seq.mk ?_ | with_reducible refine blk.mk ?_ )
        refine lp.mk (fun σ => σ = ⟨[(1, aAV l), (2, .p 0 0), (5, .p 1 0), (6, .b fit), (7, .i .i64 (i : Int)), (13, .sa 3 1 0 0), (15, .i .i64 0)],
          [(0, .lit [oAV o', fAV f']), (1, .lit [oAV o', fAV f'])], 5⟩) (fun σ => 0) ?_ ?_
        · refine ⟨_, Le.mk ?_ ?_ rfl rfl, rfl⟩
          · exact ⟨rfl, rfl, rfl, rfl, rfl, rfl, rfl, trivial⟩
          · exact ⟨rfl, rfl, trivial⟩
        rintro σ' rfl
        repeat (first | (refine Sq.nx ?_; try dsimp only [St.put, rn, rns, rid, rnH, rnB, dead, AV.cells, setAt, enumEnv, List.length_nil, List.length_cons, List.getElem?_nil, List.getElem?_cons_zero, List.getElem?_cons_succ, Nat.reduceAdd, Nat.reduceSub, Nat.add_zero]) | refine Bq.nx ?_ | refine Bq.hit rfl ?_ | refine Bq.miss rfl ?_ | refine Sq.ex ?_ | refine Sq.rt ?_ | refine Bq.rt ?_ | refine Lq.ex ?_ | refine Lq.rt ?_ | with_reducible refine seq.mk ?_ | with_reducible refine blk.mk ?_ )
        refine brk.mk (fun h => absurd (of_decide_eq_true h) (by decide)) (fun _ => ?_)
        repeat (first | (refine Sq.nx ?_; try dsimp only [St.put, rn, rns, rid, rnH, rnB, dead, AV.cells, setAt, enumEnv, List.length_nil, List.length_cons, List.getElem?_nil, List.getElem?_cons_zero, List.getElem?_cons_succ, Nat.reduceAdd, Nat.reduceSub, Nat.add_zero]) | refine Bq.nx ?_ | refine Bq.hit rfl ?_ | refine Bq.miss rfl ?_ | refine Sq.ex ?_ | refine Sq.rt ?_ | refine Bq.rt ?_ | refine Lq.ex ?_ | refine Lq.rt ?_ | with_reducible refine seq.mk ?_ | with_reducible refine blk.mk ?_ )
        refine Lq.nx _ (Le.mk ?_ ?_ rfl rfl) ⟨i + 1, ⟨o', f'⟩, hlt, hk1, hk2, fun hh => hk3 (ht3 hh), rfl⟩ ?_
        · exact ⟨rfl, rfl, rfl, rfl, congrArg (AV.i .i64) hwrap, trivial⟩
        · exact ⟨rfl, rfl, trivial⟩
        · show (_ - ((i + 1 : Nat) : Int)).toNat < (_ - (i : Int)).toNat
          omega
    · repeat (first | (refine Sq.nx ?_; try dsimp only [St.put, rn, rns, rid, rnH, rnB, dead, AV.cells, setAt, enumEnv, List.length_nil, List.length_cons, List.getElem?_nil, List.getElem?_cons_zero, List.getElem?_cons_succ, Nat.reduceAdd, Nat.reduceSub, Nat.add_zero]) | refine Bq.nx ?_ | refine Bq.hit rfl ?_ | refine Bq.miss rfl ?_ | refine Sq.ex ?_ | refine Sq.rt ?_ | refine Bq.rt ?_ | refine Lq.ex ?_ | refine Lq.rt ?_ | with_reducible refine seq.mk ?_ | with_reducible refine blk.mk ?_ )
      have p1 := names14 t (l.getD i ac0).name hlt2
      have p2 := names23 t (l.getD i ac0).name hlt2
      have hk := names_keeps t (l.getD i ac0).name
      have hnl : (namesOf t (l.getD i ac0).name).2.1.length ≤ t.objs.length := names_le t _
      revert p1 p2 hk hnl
      generalize namesOf t (l.getD i ac0).name = r
      obtain ⟨⟨o', f'⟩, ls, e⟩ := r
      intro p1 p2 hk hnl
      have hnl : ls.length ≤ t.objs.length := hnl
      have hk1 : o'.length ≤ 30 + (i + 1) := by have := hk.objs; dsimp only at this; omega
      have hk2 : f'.length ≤ 100 := by have := hk.fates; dsimp only at this; omega
      have hk3 : Fit t.objs → Fit o' := hk.fit
      have hl' : Small ⟨o', f'⟩ := ⟨by show o'.length ≤ _; omega, by show f'.length ≤ _; omega⟩
      refine XCall.givv p1 ?_
      refine And.intro rfl (And.intro (AVles.refl _) ?_)
      repeat (first | (refine Sq.nx ?_; try dsimp only [St.put, rn, rns, rid, rnH, rnB, dead, AV.cells, setAt, enumEnv, List.length_nil, List.length_cons, List.getElem?_nil, List.getElem?_cons_zero, List.getElem?_cons_succ, Nat.reduceAdd, Nat.reduceSub, Nat.add_zero]) | refine Bq.nx ?_ | refine Bq.hit rfl ?_ | refine Bq.miss rfl ?_ | refine Sq.ex ?_ | refine Sq.rt ?_ | refine Bq.rt ?_ | refine Lq.ex ?_ | refine Lq.rt ?_ | with_reducible refine seq.mk ?_ | with_reducible refine blk.mk ?_ )
      refine XCall.givv p2 ?_
      refine And.intro rfl (And.intro (AVles.refl _) ?_)
      repeat (first | (refine Sq.nx ?_; try dsimp only [St.put, rn, rns, rid, rnH, rnB, dead, AV.cells, setAt, enumEnv, List.length_nil, List.length_cons, List.getElem?_nil, List.getElem?_cons_zero, List.getElem?_cons_succ, Nat.reduceAdd, Nat.reduceSub, Nat.add_zero]) | refine Bq.nx ?_ | refine Bq.hit rfl ?_ | refine Bq.miss rfl ?_ | refine Sq.ex ?_ | refine Sq.rt ?_ | refine Bq.rt ?_ | refine Lq.ex ?_ | refine Lq.rt ?_ | with_reducible refine seq.mk ?_ | with_reducible refine blk.mk ?_ )
      refine brk.mk (fun h => (ne _ h).elim) (fun _ => ?_)
      refine brk.mk (fun h => (ns _ h).elim) (fun _ => ?_)
      refine brk.mk (fun h => (ne _ h).elim) (fun _ => ?_)
      refine XCall.lenv (same18 ⟨o', f'⟩ hl') rfl ?_
      refine And.intro rfl (And.intro (AVles.refl _) ?_)
      refine brk.mk (fun h => by cases h) (fun _ => ?_)
      refine brk.mk (fun hfit => ?_) (fun hfit => ?_)
      · refine XCall.lenv (check17 ⟨o', f'⟩ hl'.1) rfl ?_
        refine And.intro rfl (And.intro (AVles.refl _) ?_)
        repeat (first | (refine Sq.nx ?_; try dsimp only [St.put, rn, rns, rid, rnH, rnB, dead, AV.cells, setAt, enumEnv, List.length_nil, List.length_cons, List.getElem?_nil, List.getElem?_cons_zero, List.getElem?_cons_succ, Nat.reduceAdd, Nat.reduceSub, Nat.add_zero]) | refine Bq.nx ?_ | refine Bq.hit rfl ?_ | refine Bq.miss rfl ?_ | refine Sq.ex ?_ | refine Sq.rt ?_ | refine Bq.rt ?_ | refine Lq.ex ?_ | refine Lq.rt ?_ | with_reducible refine seq.mk ?_ | with_reducible refine blk.mk ?_ )
        refine brk.mk (fun h => absurd (fit_iff.2 (hk3 (ht3 hfit))) (bne_t h)) (fun _ => ?_)
        repeat (first | (refine Sq.nx ?_; try dsimp only [St.put, rn, rns, rid, rnH, rnB, dead, AV.cells, setAt, enumEnv, List.length_nil, List.length_cons, List.getElem?_nil, List.getElem?_cons_zero, List.getElem?_cons_succ, Nat.reduceAdd, Nat.reduceSub, Nat.add_zero]) | refine Bq.nx ?_ | refine Bq.hit rfl ?_ | refine Bq.miss rfl ?_ | refine Sq.ex ?_ | refine Sq.rt ?_ | refine Bq.rt ?_ | refine Lq.ex ?_ | refine Lq.rt ?_ | with_reducible refine seq.mk ?_ | with_reducible refine blk.mk ?_ )
        refine lp.mk (fun σ => ∃ k : Nat, k ≤ ls.length ∧ σ = ⟨[(1, aAV l), (2, .p 0 0), (5, .p 1 0), (6, .b fit), (7, .i .i64 (i : Int)), (13, lAV ls), (14, lAV ls), (15, .i .i64 (k : Int))],
          [(0, .lit [oAV o', fAV f']), (1, .lit [oAV o', fAV f'])], 5⟩) (fun σ => (ls.length - num 15 σ).toNat) ?_ ?_
        · refine ⟨_, Le.mk ?_ ?_ rfl rfl, 0, Nat.zero_le _, rfl⟩
          · exact ⟨rfl, rfl, rfl, rfl, rfl, rfl, rfl, rfl, trivial⟩
          · exact ⟨rfl, rfl, trivial⟩
        rintro σ' ⟨k, hk, rfl⟩
        repeat (first | (refine Sq.nx ?_; try dsimp only [St.put, rn, rns, rid, rnH, rnB, dead, AV.cells, setAt, enumEnv, List.length_nil, List.length_cons, List.getElem?_nil, List.getElem?_cons_zero, List.getElem?_cons_succ, Nat.reduceAdd, Nat.reduceSub, Nat.add_zero]) | refine Bq.nx ?_ | refine Bq.hit rfl ?_ | refine Bq.miss rfl ?_ | refine Sq.ex ?_ | refine Sq.rt ?_ | refine Bq.rt ?_ | refine Lq.ex ?_ | refine Lq.rt ?_ | with_reducible refine seq.mk ?_ | with_reducible refine blk.mk ?_ )
        refine brk.mk (fun hck => ?_) (fun hck => ?_)
        · have hkl : k < ls.length := by have := of_decide_eq_true hck; omega
          have hwk : IntKind.i64.wrap ((k : Int) + 1) = ((k + 1 : Nat) : Int) := by rw [wrap_int (by omega) (by omega)]; omega
          repeat (first | (refine Sq.nx ?_; try dsimp only [St.put, rn, rns, rid, rnH, rnB, dead, AV.cells, setAt, enumEnv, List.length_nil, List.length_cons, List.getElem?_nil, List.getElem?_cons_zero, List.getElem?_cons_succ, Nat.reduceAdd, Nat.reduceSub, Nat.add_zero]) | refine Bq.nx ?_ | refine Bq.hit rfl ?_ | refine Bq.miss rfl ?_ | refine Sq.ex ?_ | refine Sq.rt ?_ | refine Bq.rt ?_ | refine Lq.ex ?_ | refine Lq.rt ?_ | with_reducible refine seq.mk ?_ | with_reducible refine blk.mk ?_ )
          refine Exists.intro k ?_
          refine And.intro rfl ?_
          refine And.intro hkl ?_
          refine Exists.intro k ?_
          refine And.intro rfl ?_
          refine And.intro hkl ?_
          repeat (first | (refine Sq.nx ?_; try dsimp only [St.put, rn, rns, rid, rnH, rnB, dead, AV.cells, setAt, enumEnv, List.length_nil, List.length_cons, List.getElem?_nil, List.getElem?_cons_zero, List.getElem?_cons_succ, Nat.reduceAdd, Nat.reduceSub, Nat.add_zero]) | refine Bq.nx ?_ | refine Bq.hit rfl ?_ | refine Bq.miss rfl ?_ | refine Sq.ex ?_ | refine Sq.rt ?_ | refine Bq.rt ?_ | refine Lq.ex ?_ | refine Lq.rt ?_ | with_reducible refine seq.mk ?_ | with_reducible refine blk.mk ?_ )
          refine brk.mk (fun h => (ns _ h).elim) (fun _ => ?_)
          repeat (first | (refine Sq.nx ?_; try dsimp only [St.put, rn, rns, rid, rnH, rnB, dead, AV.cells, setAt, enumEnv, List.length_nil, List.length_cons, List.getElem?_nil, List.getElem?_cons_zero, List.getElem?_cons_succ, Nat.reduceAdd, Nat.reduceSub, Nat.add_zero]) | refine Bq.nx ?_ | refine Bq.hit rfl ?_ | refine Bq.miss rfl ?_ | refine Sq.ex ?_ | refine Sq.rt ?_ | refine Bq.rt ?_ | refine Lq.ex ?_ | refine Lq.rt ?_ | with_reducible refine seq.mk ?_ | with_reducible refine blk.mk ?_ )
          refine Lq.nx _ (Le.mk ?_ ?_ rfl rfl) ⟨k + 1, hkl, rfl⟩ ?_
          · exact ⟨rfl, rfl, rfl, rfl, rfl, rfl, rfl, congrArg (AV.i .i64) hwk, trivial⟩
          · exact ⟨rfl, rfl, trivial⟩
          · show (_ - ((k + 1 : Nat) : Int)).toNat < (_ - (k : Int)).toNat
            omega
        · repeat (first | (refine Sq.nx ?_; try dsimp only [St.put, rn, rns, rid, rnH, rnB, dead, AV.cells, setAt, enumEnv, List.length_nil, List.length_cons, List.getElem?_nil, List.getElem?_cons_zero, List.getElem?_cons_succ, Nat.reduceAdd, Nat.reduceSub, Nat.add_zero]) | refine Bq.nx ?_ | refine Bq.hit rfl ?_ | refine Bq.miss rfl ?_ | refine Sq.ex ?_ | refine Sq.rt ?_ | refine Bq.rt ?_ | refine Lq.ex ?_ | refine Lq.rt ?_ | with_reducible refine seq.mk ?_ | with_reducible refine blk.mk ?_ )
          refine Lq.nx _ (Le.mk ?_ ?_ rfl rfl) ⟨i + 1, ⟨o', f'⟩, hlt, hk1, hk2, fun hh => hk3 (ht3 hh), rfl⟩ ?_
          · exact ⟨rfl, rfl, rfl, rfl, congrArg (AV.i .i64) hwrap, trivial⟩
          · exact ⟨rfl, rfl, trivial⟩
          · show (_ - ((i + 1 : Nat) : Int)).toNat < (_ - (i : Int)).toNat
            omega
      · repeat (first | (refine Sq.nx ?_; try dsimp only [St.put, rn, rns, rid, rnH, rnB, dead, AV.cells, setAt, enumEnv, List.length_nil, List.length_cons, List.getElem?_nil, List.getElem?_cons_zero, List.getElem?_cons_succ, Nat.reduceAdd, Nat.reduceSub, Nat.add_zero]) | refine Bq.nx ?_ | refine Bq.hit rfl ?_ | refine Bq.miss rfl ?_ | refine Sq.ex ?_ | refine Sq.rt ?_ | refine Bq.rt ?_ | refine Lq.ex ?_ | refine Lq.rt ?_ | with_reducible refine seq.mk ?_ | with_reducible refine blk.mk ?_ )
        repeat (first | (refine Sq.nx ?_; try dsimp only [St.put, rn, rns, rid, rnH, rnB, dead, AV.cells, setAt, enumEnv, List.length_nil, List.length_cons, List.getElem?_nil, List.getElem?_cons_zero, List.getElem?_cons_succ, Nat.reduceAdd, Nat.reduceSub, Nat.add_zero]) | refine Bq.nx ?_ | refine Bq.hit rfl ?_ | refine Bq.miss rfl ?_ | refine Sq.ex ?_ | refine Sq.rt ?_ | refine Bq.rt ?_ | refine Lq.ex ?_ | refine Lq.rt ?_ | with_reducible refine seq.mk ?_ | with_reducible refine blk.mk ?_ )
        refine lp.mk (fun σ => ∃ k : Nat, k ≤ ls.length ∧ σ = ⟨[(1, aAV l), (2, .p 0 0), (5, .p 1 0), (6, .b fit), (7, .i .i64 (i : Int)), (13, lAV ls), (14, lAV ls), (15, .i .i64 (k : Int))],
          [(0, .lit [oAV o', fAV f']), (1, .lit [oAV o', fAV f'])], 5⟩) (fun σ => (ls.length - num 15 σ).toNat) ?_ ?_
        · refine ⟨_, Le.mk ?_ ?_ rfl rfl, 0, Nat.zero_le _, rfl⟩
          · exact ⟨rfl, rfl, rfl, rfl, rfl, rfl, rfl, rfl, trivial⟩
          · exact ⟨rfl, rfl, trivial⟩
        rintro σ' ⟨k, hk, rfl⟩
        repeat (first | (refine Sq.nx ?_; try dsimp only [St.put, rn, rns, rid, rnH, rnB, dead, AV.cells, setAt, enumEnv, List.length_nil, List.length_cons, List.getElem?_nil, List.getElem?_cons_zero, List.getElem?_cons_succ, Nat.reduceAdd, Nat.reduceSub, Nat.add_zero]) | refine Bq.nx ?_ | refine Bq.hit rfl ?_ | refine Bq.miss rfl ?_ | refine Sq.ex ?_ | refine Sq.rt ?_ | refine Bq.rt ?_ | refine Lq.ex ?_ | refine Lq.rt ?_ | with_reducible refine seq.mk ?_ | with_reducible refine blk.mk ?_ )
        refine brk.mk (fun hck => ?_) (fun hck => ?_)
        · have hkl : k < ls.length := by have := of_decide_eq_true hck; omega
          have hwk : IntKind.i64.wrap ((k : Int) + 1) = ((k + 1 : Nat) : Int) := by rw [wrap_int (by omega) (by omega)]; omega
          repeat (first | (refine Sq.nx ?_; try dsimp only [St.put, rn, rns, rid, rnH, rnB, dead, AV.cells, setAt, enumEnv, List.length_nil, List.length_cons, List.getElem?_nil, List.getElem?_cons_zero, List.getElem?_cons_succ, Nat.reduceAdd, Nat.reduceSub, Nat.add_zero]) | refine Bq.nx ?_ | refine Bq.hit rfl ?_ | refine Bq.miss rfl ?_ | refine Sq.ex ?_ | refine Sq.rt ?_ | refine Bq.rt ?_ | refine Lq.ex ?_ | refine Lq.rt ?_ | with_reducible refine seq.mk ?_ | with_reducible refine blk.mk ?_ )
          refine Exists.intro k ?_
          refine And.intro rfl ?_
          refine And.intro hkl ?_
          refine Exists.intro k ?_
          refine And.intro rfl ?_
          refine And.intro hkl ?_
          repeat (first | (refine Sq.nx ?_; try dsimp only [St.put, rn, rns, rid, rnH, rnB, dead, AV.cells, setAt, enumEnv, List.length_nil, List.length_cons, List.getElem?_nil, List.getElem?_cons_zero, List.getElem?_cons_succ, Nat.reduceAdd, Nat.reduceSub, Nat.add_zero]) | refine Bq.nx ?_ | refine Bq.hit rfl ?_ | refine Bq.miss rfl ?_ | refine Sq.ex ?_ | refine Sq.rt ?_ | refine Bq.rt ?_ | refine Lq.ex ?_ | refine Lq.rt ?_ | with_reducible refine seq.mk ?_ | with_reducible refine blk.mk ?_ )
          refine brk.mk (fun h => (ns _ h).elim) (fun _ => ?_)
          repeat (first | (refine Sq.nx ?_; try dsimp only [St.put, rn, rns, rid, rnH, rnB, dead, AV.cells, setAt, enumEnv, List.length_nil, List.length_cons, List.getElem?_nil, List.getElem?_cons_zero, List.getElem?_cons_succ, Nat.reduceAdd, Nat.reduceSub, Nat.add_zero]) | refine Bq.nx ?_ | refine Bq.hit rfl ?_ | refine Bq.miss rfl ?_ | refine Sq.ex ?_ | refine Sq.rt ?_ | refine Bq.rt ?_ | refine Lq.ex ?_ | refine Lq.rt ?_ | with_reducible refine seq.mk ?_ | with_reducible refine blk.mk ?_ )
          refine Lq.nx _ (Le.mk ?_ ?_ rfl rfl) ⟨k + 1, hkl, rfl⟩ ?_
          · exact ⟨rfl, rfl, rfl, rfl, rfl, rfl, rfl, congrArg (AV.i .i64) hwk, trivial⟩
          · exact ⟨rfl, rfl, trivial⟩
          · show (_ - ((k + 1 : Nat) : Int)).toNat < (_ - (k : Int)).toNat
            omega
        · repeat (first | (refine Sq.nx ?_; try dsimp only [St.put, rn, rns, rid, rnH, rnB, dead, AV.cells, setAt, enumEnv, List.length_nil, List.length_cons, List.getElem?_nil, List.getElem?_cons_zero, List.getElem?_cons_succ, Nat.reduceAdd, Nat.reduceSub, Nat.add_zero]) | refine Bq.nx ?_ | refine Bq.hit rfl ?_ | refine Bq.miss rfl ?_ | refine Sq.ex ?_ | refine Sq.rt ?_ | refine Bq.rt ?_ | refine Lq.ex ?_ | refine Lq.rt ?_ | with_reducible refine seq.mk ?_ | with_reducible refine blk.mk ?_ )
          refine Lq.nx _ (Le.mk ?_ ?_ rfl rfl) ⟨i + 1, ⟨o', f'⟩, hlt, hk1, hk2, fun hh => hk3 (ht3 hh), rfl⟩ ?_
          · exact ⟨rfl, rfl, rfl, rfl, congrArg (AV.i .i64) hwrap, trivial⟩
          · exact ⟨rfl, rfl, trivial⟩
          · show (_ - ((i + 1 : Nat) : Int)).toNat < (_ - (i : Int)).toNat
            omega
  repeat (first | (refine Sq.nx ?_; try dsimp only [St.put, rn, rns, rid, rnH, rnB, dead, AV.cells, setAt, enumEnv, List.length_nil, List.length_cons, List.getElem?_nil, List.getElem?_cons_zero, List.getElem?_cons_succ, Nat.reduceAdd, Nat.reduceSub, Nat.add_zero]) | refine Bq.nx ?_ | refine Bq.hit rfl ?_ | refine Bq.miss rfl ?_ | refine Sq.ex ?_ | refine Sq.rt ?_ | refine Bq.rt ?_ | refine Lq.ex ?_ | refine Lq.rt ?_ | with_reducible refine seq.mk ?_ | with_reducible refine blk.mk ?_ )
  refine XCall.lenv awake11 rfl ?_
  refine And.intro rfl (And.intro (AVles.refl _) ?_)
  repeat (first | (refine Sq.nx ?_; try dsimp only [St.put, rn, rns, rid, rnH, rnB, dead, AV.cells, setAt, enumEnv, List.length_nil, List.length_cons, List.getElem?_nil, List.getElem?_cons_zero, List.getElem?_cons_succ, Nat.reduceAdd, Nat.reduceSub, Nat.add_zero]) | refine Bq.nx ?_ | refine Bq.hit rfl ?_ | refine Bq.miss rfl ?_ | refine Sq.ex ?_ | refine Sq.rt ?_ | refine Bq.rt ?_ | refine Lq.ex ?_ | refine Lq.rt ?_ | with_reducible refine seq.mk ?_ | with_reducible refine blk.mk ?_ )
  refine Rq.rt ?_
  exact And.intro rfl (AVle.refl _)
end Go.Proofs.T

namespace Go.Proofs.T
open Go Go.Hb

/-- What a call of a named object leaves of another. -/
structure Eff (s r : Sh) (other : ByteArray) : Prop where
  objs : r.objs.length ≤ s.objs.length + 1
  fates : r.fates = s.fates.tail
  fit : Fit r.objs
  find : findR r.objs other = findR s.objs other
theorem put_eff {s : Sh} {name data other : ByteArray} (h : Fit s.objs) (hn : Named name) (hd : data.size ≤ 65536) (hne : other ≠ name) : Eff s (put s name data).1 other := by
  have same : Eff s ⟨s.objs, s.fates.tail⟩ other := ⟨Nat.le_succ _, rfl, h, rfl⟩
  unfold put
  rw [if_neg (fun hc => hc (fit_iff.2 h)), if_neg (fun hc => hc hn), if_neg (by omega)]
  split
  · exact same
  split
  · exact same
  refine ⟨upd_len _ _ _, rfl, upd_fit h hn ?_, ?_⟩
  · split
    · rw [flip_size]; exact hd
    · exact hd
  · show findR (upd _ _ _) other = _
    rw [upd_wo h]
    exact wo_other (fun _ => rfl) hne
theorem get_eff {s : Sh} {name other : ByteArray} (h : Fit s.objs) (hn : Named name) : Eff s (get s name).1 other := by
  rw [get_fit h hn]
  exact ⟨Nat.le_succ _, rfl, h, rfl⟩
theorem drop_eff {s : Sh} {name other : ByteArray} (h : Fit s.objs) (hn : Named name) (hne : other ≠ name) : Eff s (drop s name).1 other := by
  have same : Eff s ⟨s.objs, s.fates.tail⟩ other := ⟨Nat.le_succ _, rfl, h, rfl⟩
  unfold drop
  rw [if_neg (fun hc => hc (fit_iff.2 h)), if_neg (fun hc => hc hn)]
  split
  · exact same
  split
  · exact same
  split
  · exact same
  rename_i ht
  have ht' := Decidable.not_not.1 ht
  refine ⟨?_, rfl, del_fit h ht', ?_⟩
  · show (del _ _).length ≤ _
    rw [del_len ht'.1]
    omega
  · show findR (del _ _) other = _
    rw [del_wo h ht']
    exact wo_other (fun h => by cases h) hne
theorem names_eff {s : Sh} {front other : ByteArray} (h : Fit s.objs) : Eff s (namesOf s front).1 other := by
  have same : Eff s ⟨s.objs, s.fates.tail⟩ other := ⟨Nat.le_succ _, rfl, h, rfl⟩
  unfold namesOf
  rw [if_neg (fun hc => hc (fit_iff.2 h))]
  split
  · exact same
  split
  · exact same
  · exact same

/-- Each call that has no error of its own takes one fate. -/
theorem calls7 (s : Sh) (l : List Ac) (other : ByteArray) (hll : l.length ≤ 9223372036854775807) : Pure Try.prog 7 [sAV s, aAV l, .s other] (fun r => r = .b true) := by
  refine Pure.weak (Post := fun r => AVle r (.b true)) (Pure.of (XCall.bodyq is7 rfl ?_)) fun r h => ⟨_, rfl, h⟩
  unfold m7
  repeat (first | (refine Sq.nx ?_; try dsimp only [St.put, rn, rns, rid, rnH, rnB, dead, AV.cells, setAt, enumEnv, List.length_nil, List.length_cons, List.getElem?_nil, List.getElem?_cons_zero, List.getElem?_cons_succ, Nat.reduceAdd, Nat.reduceSub, Nat.add_zero]) | refine Bq.nx ?_ | refine Bq.hit rfl ?_ | refine Bq.miss rfl ?_ | refine Sq.ex ?_ | refine Sq.rt ?_ | refine Bq.rt ?_ | refine Lq.ex ?_ | refine Lq.rt ?_ | with_reducible refine seq.mk ?_ | with_reducible refine blk.mk ?_ )
  refine XCall.len (Exists.intro _ (And.intro (great8 s) (And.intro rfl ?_)))
  rintro r ⟨e, rfl, he⟩
  refine And.intro rfl ?_
  refine brk.mk (fun h => ?_) (fun h1 => ?_)
  · repeat (first | (refine Sq.nx ?_; try dsimp only [St.put, rn, rns, rid, rnH, rnB, dead, AV.cells, setAt, enumEnv, List.length_nil, List.length_cons, List.getElem?_nil, List.getElem?_cons_zero, List.getElem?_cons_succ, Nat.reduceAdd, Nat.reduceSub, Nat.add_zero]) | refine Bq.nx ?_ | refine Bq.hit rfl ?_ | refine Bq.miss rfl ?_ | refine Sq.ex ?_ | refine Sq.rt ?_ | refine Bq.rt ?_ | refine Lq.ex ?_ | refine Lq.rt ?_ | with_reducible refine seq.mk ?_ | with_reducible refine blk.mk ?_ )
    refine XCall.lenv awake11 rfl ?_
    refine And.intro rfl (And.intro (AVles.refl _) ?_)
    repeat (first | (refine Sq.nx ?_; try dsimp only [St.put, rn, rns, rid, rnH, rnB, dead, AV.cells, setAt, enumEnv, List.length_nil, List.length_cons, List.getElem?_nil, List.getElem?_cons_zero, List.getElem?_cons_succ, Nat.reduceAdd, Nat.reduceSub, Nat.add_zero]) | refine Bq.nx ?_ | refine Bq.hit rfl ?_ | refine Bq.miss rfl ?_ | refine Sq.ex ?_ | refine Sq.rt ?_ | refine Bq.rt ?_ | refine Lq.ex ?_ | refine Lq.rt ?_ | with_reducible refine seq.mk ?_ | with_reducible refine blk.mk ?_ )
    refine Rq.rt ?_
    exact And.intro rfl (AVle.refl _)
  have hsm := he (of_decide_eq_false h1)
  have hl : Small s := ⟨by have := hsm.1.1; omega, by have := hsm.1.2; omega⟩
  refine XCall.len (Exists.intro _ (And.intro (great19 l hll) (And.intro rfl ?_)))
  rintro r ⟨b, rfl, hb⟩
  refine And.intro rfl ?_
  refine brk.mk (fun h => ?_) (fun h2 => ?_)
  · repeat (first | (refine Sq.nx ?_; try dsimp only [St.put, rn, rns, rid, rnH, rnB, dead, AV.cells, setAt, enumEnv, List.length_nil, List.length_cons, List.getElem?_nil, List.getElem?_cons_zero, List.getElem?_cons_succ, Nat.reduceAdd, Nat.reduceSub, Nat.add_zero]) | refine Bq.nx ?_ | refine Bq.hit rfl ?_ | refine Bq.miss rfl ?_ | refine Sq.ex ?_ | refine Sq.rt ?_ | refine Bq.rt ?_ | refine Lq.ex ?_ | refine Lq.rt ?_ | with_reducible refine seq.mk ?_ | with_reducible refine blk.mk ?_ )
    refine XCall.lenv awake11 rfl ?_
    refine And.intro rfl (And.intro (AVles.refl _) ?_)
    repeat (first | (refine Sq.nx ?_; try dsimp only [St.put, rn, rns, rid, rnH, rnB, dead, AV.cells, setAt, enumEnv, List.length_nil, List.length_cons, List.getElem?_nil, List.getElem?_cons_zero, List.getElem?_cons_succ, Nat.reduceAdd, Nat.reduceSub, Nat.add_zero]) | refine Bq.nx ?_ | refine Bq.hit rfl ?_ | refine Bq.miss rfl ?_ | refine Sq.ex ?_ | refine Sq.rt ?_ | refine Bq.rt ?_ | refine Lq.ex ?_ | refine Lq.rt ?_ | with_reducible refine seq.mk ?_ | with_reducible refine blk.mk ?_ )
    refine Rq.rt ?_
    exact And.intro rfl (AVle.refl _)
  have hA := hb h2
  have hbig := hA.1
  refine XCall.lenv (check9 s hl.1) rfl ?_
  refine And.intro rfl (And.intro (AVles.refl _) ?_)
  refine brk.mk (fun h => ?_) (fun h3 => ?_)
  · repeat (first | (refine Sq.nx ?_; try dsimp only [St.put, rn, rns, rid, rnH, rnB, dead, AV.cells, setAt, enumEnv, List.length_nil, List.length_cons, List.getElem?_nil, List.getElem?_cons_zero, List.getElem?_cons_succ, Nat.reduceAdd, Nat.reduceSub, Nat.add_zero]) | refine Bq.nx ?_ | refine Bq.hit rfl ?_ | refine Bq.miss rfl ?_ | refine Sq.ex ?_ | refine Sq.rt ?_ | refine Bq.rt ?_ | refine Lq.ex ?_ | refine Lq.rt ?_ | with_reducible refine seq.mk ?_ | with_reducible refine blk.mk ?_ )
    refine XCall.lenv awake11 rfl ?_
    refine And.intro rfl (And.intro (AVles.refl _) ?_)
    repeat (first | (refine Sq.nx ?_; try dsimp only [St.put, rn, rns, rid, rnH, rnB, dead, AV.cells, setAt, enumEnv, List.length_nil, List.length_cons, List.getElem?_nil, List.getElem?_cons_zero, List.getElem?_cons_succ, Nat.reduceAdd, Nat.reduceSub, Nat.add_zero]) | refine Bq.nx ?_ | refine Bq.hit rfl ?_ | refine Bq.miss rfl ?_ | refine Sq.ex ?_ | refine Sq.rt ?_ | refine Bq.rt ?_ | refine Lq.ex ?_ | refine Lq.rt ?_ | with_reducible refine seq.mk ?_ | with_reducible refine blk.mk ?_ )
    refine Rq.rt ?_
    exact And.intro rfl (AVle.refl _)
  have hF : Fit s.objs := fit_iff.1 (bne_f h3)
  refine XCall.lenv (name_spec other) rfl ?_
  refine And.intro rfl (And.intro (AVles.refl _) ?_)
  repeat (first | (refine Sq.nx ?_; try dsimp only [St.put, rn, rns, rid, rnH, rnB, dead, AV.cells, setAt, enumEnv, List.length_nil, List.length_cons, List.getElem?_nil, List.getElem?_cons_zero, List.getElem?_cons_succ, Nat.reduceAdd, Nat.reduceSub, Nat.add_zero]) | refine Bq.nx ?_ | refine Bq.hit rfl ?_ | refine Bq.miss rfl ?_ | refine Sq.ex ?_ | refine Sq.rt ?_ | refine Bq.rt ?_ | refine Lq.ex ?_ | refine Lq.rt ?_ | with_reducible refine seq.mk ?_ | with_reducible refine blk.mk ?_ )
  refine brk.mk (fun h => ?_) (fun h4 => ?_)
  · repeat (first | (refine Sq.nx ?_; try dsimp only [St.put, rn, rns, rid, rnH, rnB, dead, AV.cells, setAt, enumEnv, List.length_nil, List.length_cons, List.getElem?_nil, List.getElem?_cons_zero, List.getElem?_cons_succ, Nat.reduceAdd, Nat.reduceSub, Nat.add_zero]) | refine Bq.nx ?_ | refine Bq.hit rfl ?_ | refine Bq.miss rfl ?_ | refine Sq.ex ?_ | refine Sq.rt ?_ | refine Bq.rt ?_ | refine Lq.ex ?_ | refine Lq.rt ?_ | with_reducible refine seq.mk ?_ | with_reducible refine blk.mk ?_ )
    refine XCall.lenv awake11 rfl ?_
    refine And.intro rfl (And.intro (AVles.refl _) ?_)
    repeat (first | (refine Sq.nx ?_; try dsimp only [St.put, rn, rns, rid, rnH, rnB, dead, AV.cells, setAt, enumEnv, List.length_nil, List.length_cons, List.getElem?_nil, List.getElem?_cons_zero, List.getElem?_cons_succ, Nat.reduceAdd, Nat.reduceSub, Nat.add_zero]) | refine Bq.nx ?_ | refine Bq.hit rfl ?_ | refine Bq.miss rfl ?_ | refine Sq.ex ?_ | refine Sq.rt ?_ | refine Bq.rt ?_ | refine Lq.ex ?_ | refine Lq.rt ?_ | with_reducible refine seq.mk ?_ | with_reducible refine blk.mk ?_ )
    refine Rq.rt ?_
    exact And.intro rfl (AVle.refl _)
  have hO := is_named h4
  repeat (first | (refine Sq.nx ?_; try dsimp only [St.put, rn, rns, rid, rnH, rnB, dead, AV.cells, setAt, enumEnv, List.length_nil, List.length_cons, List.getElem?_nil, List.getElem?_cons_zero, List.getElem?_cons_succ, Nat.reduceAdd, Nat.reduceSub, Nat.add_zero]) | refine Bq.nx ?_ | refine Bq.hit rfl ?_ | refine Bq.miss rfl ?_ | refine Sq.ex ?_ | refine Sq.rt ?_ | refine Bq.rt ?_ | refine Lq.ex ?_ | refine Lq.rt ?_ | with_reducible refine seq.mk ?_ | with_reducible refine blk.mk ?_ )
  refine XCall.givv (honest15 s) ?_
  refine And.intro rfl (And.intro (AVles.refl _) ?_)
  have p1 := get12 ⟨s.objs, []⟩ other ⟨hl.1, Nat.zero_le _⟩
  rw [get_told hF hO] at p1
  refine XCall.givv p1 ?_
  refine And.intro rfl (And.intro (AVles.refl _) ?_)
  repeat (first | (refine Sq.nx ?_; try dsimp only [St.put, rn, rns, rid, rnH, rnB, dead, AV.cells, setAt, enumEnv, List.length_nil, List.length_cons, List.getElem?_nil, List.getElem?_cons_zero, List.getElem?_cons_succ, Nat.reduceAdd, Nat.reduceSub, Nat.add_zero]) | refine Bq.nx ?_ | refine Bq.hit rfl ?_ | refine Bq.miss rfl ?_ | refine Sq.ex ?_ | refine Sq.rt ?_ | refine Bq.rt ?_ | refine Lq.ex ?_ | refine Lq.rt ?_ | with_reducible refine seq.mk ?_ | with_reducible refine blk.mk ?_ )
  refine lp.mk (fun σ => ∃ (i : Nat) (t : Sh), i ≤ l.length ∧ t.objs.length ≤ 30 + i ∧ t.fates.length ≤ 100 ∧ Fit t.objs ∧ findR t.objs other = findR s.objs other ∧
    σ = ⟨[(1, aAV l), (2, .s other), (3, .p 0 0), (8, .s (told (findR s.objs other)).1), (9, .i .i64 (told (findR s.objs other)).2), (10, .i .i64 (t.fates.length : Int)), (11, .i .i64 (i : Int))],
      [(0, .lit [oAV t.objs, fAV t.fates])], 2⟩) (fun σ => (l.length - num 11 σ).toNat) ?_ ?_
  · refine ⟨_, Le.mk ?_ ?_ rfl rfl, 0, s, Nat.zero_le _, by have := hsm.1.1; omega, hsm.1.2, hF, rfl, rfl⟩
    · exact ⟨rfl, rfl, rfl, rfl, rfl, rfl, rfl, trivial⟩
    · exact ⟨rfl, trivial⟩
  rintro σ' ⟨i, t, hi, ht1, ht2, ht3, ht4, rfl⟩
  have ne : ∀ x : Int, (x != x) = true → False := fun x h => by simp at h
  repeat (first | (refine Sq.nx ?_; try dsimp only [St.put, rn, rns, rid, rnH, rnB, dead, AV.cells, setAt, enumEnv, List.length_nil, List.length_cons, List.getElem?_nil, List.getElem?_cons_zero, List.getElem?_cons_succ, Nat.reduceAdd, Nat.reduceSub, Nat.add_zero]) | refine Bq.nx ?_ | refine Bq.hit rfl ?_ | refine Bq.miss rfl ?_ | refine Sq.ex ?_ | refine Sq.rt ?_ | refine Bq.rt ?_ | refine Lq.ex ?_ | refine Lq.rt ?_ | with_reducible refine seq.mk ?_ | with_reducible refine blk.mk ?_ )
  refine brk.mk (fun hc => ?_) (fun hc => ?_)
  · have hlt : i < l.length := by have := of_decide_eq_true hc; omega
    have hwrap : IntKind.i64.wrap ((i : Int) + 1) = ((i + 1 : Nat) : Int) := by rw [wrap_int (by omega) (by omega)]; omega
    have hsz : (l.getD i ac0).name.size ≤ 200 ∧ (l.getD i ac0).data.size ≤ 500 := by
      rw [getA hlt]
      exact hA.2 _ (List.getElem_mem hlt)
    have hlt2 : Small t := ⟨by omega, by omega⟩
    have hmax : ∀ f' : List Int, f' = t.fates.tail → AV.i IntKind.i64 (if (0 : Int) > IntKind.i64.wrap ((t.fates.length : Int) - 1) then 0 else IntKind.i64.wrap ((t.fates.length : Int) - 1)) = AV.i .i64 (f'.length : Int) := fun f' e => by
      rw [e, wrap_int (by omega) (by omega), List.length_tail]
      congr 1
      split <;> omega
    repeat (first | (refine Sq.nx ?_; try dsimp only [St.put, rn, rns, rid, rnH, rnB, dead, AV.cells, setAt, enumEnv, List.length_nil, List.length_cons, List.getElem?_nil, List.getElem?_cons_zero, List.getElem?_cons_succ, Nat.reduceAdd, Nat.reduceSub, Nat.add_zero]) | refine Bq.nx ?_ | refine Bq.hit rfl ?_ | refine Bq.miss rfl ?_ | refine Sq.ex ?_ | refine Sq.rt ?_ | refine Bq.rt ?_ | refine Lq.ex ?_ | refine Lq.rt ?_ | with_reducible refine seq.mk ?_ | with_reducible refine blk.mk ?_ )
    refine Exists.intro i ?_
    refine And.intro rfl ?_
    refine And.intro hlt ?_
    repeat (first | (refine Sq.nx ?_; try dsimp only [St.put, rn, rns, rid, rnH, rnB, dead, AV.cells, setAt, enumEnv, List.length_nil, List.length_cons, List.getElem?_nil, List.getElem?_cons_zero, List.getElem?_cons_succ, Nat.reduceAdd, Nat.reduceSub, Nat.add_zero]) | refine Bq.nx ?_ | refine Bq.hit rfl ?_ | refine Bq.miss rfl ?_ | refine Sq.ex ?_ | refine Sq.rt ?_ | refine Bq.rt ?_ | refine Lq.ex ?_ | refine Lq.rt ?_ | with_reducible refine seq.mk ?_ | with_reducible refine blk.mk ?_ )
    refine XCall.lenv (name_spec (l.getD i ac0).name) rfl ?_
    refine And.intro rfl (And.intro (AVles.refl _) ?_)
    refine brk.mk (fun hn => ?_) (fun hn => ?_)
    · repeat (first | (refine Sq.nx ?_; try dsimp only [St.put, rn, rns, rid, rnH, rnB, dead, AV.cells, setAt, enumEnv, List.length_nil, List.length_cons, List.getElem?_nil, List.getElem?_cons_zero, List.getElem?_cons_succ, Nat.reduceAdd, Nat.reduceSub, Nat.add_zero]) | refine Bq.nx ?_ | refine Bq.hit rfl ?_ | refine Bq.miss rfl ?_ | refine Sq.ex ?_ | refine Sq.rt ?_ | refine Bq.rt ?_ | refine Lq.ex ?_ | refine Lq.rt ?_ | with_reducible refine seq.mk ?_ | with_reducible refine blk.mk ?_ )
      refine Lq.nx _ (Le.mk ?_ ?_ rfl rfl) ⟨i + 1, t, hlt, by omega, ht2, ht3, ht4, rfl⟩ ?_
      · exact ⟨rfl, rfl, rfl, rfl, rfl, rfl, congrArg (AV.i .i64) hwrap, trivial⟩
      · exact ⟨rfl, trivial⟩
      · show (_ - ((i + 1 : Nat) : Int)).toNat < (_ - (i : Int)).toNat
        omega
    have hN := is_named hn
    repeat (first | (refine Sq.nx ?_; try dsimp only [St.put, rn, rns, rid, rnH, rnB, dead, AV.cells, setAt, enumEnv, List.length_nil, List.length_cons, List.getElem?_nil, List.getElem?_cons_zero, List.getElem?_cons_succ, Nat.reduceAdd, Nat.reduceSub, Nat.add_zero]) | refine Bq.nx ?_ | refine Bq.hit rfl ?_ | refine Bq.miss rfl ?_ | refine Sq.ex ?_ | refine Sq.rt ?_ | refine Bq.rt ?_ | refine Lq.ex ?_ | refine Lq.rt ?_ | with_reducible refine seq.mk ?_ | with_reducible refine blk.mk ?_ )
    refine brk.mk (fun hq => ?_) (fun hq => ?_)
    · repeat (first | (refine Sq.nx ?_; try dsimp only [St.put, rn, rns, rid, rnH, rnB, dead, AV.cells, setAt, enumEnv, List.length_nil, List.length_cons, List.getElem?_nil, List.getElem?_cons_zero, List.getElem?_cons_succ, Nat.reduceAdd, Nat.reduceSub, Nat.add_zero]) | refine Bq.nx ?_ | refine Bq.hit rfl ?_ | refine Bq.miss rfl ?_ | refine Sq.ex ?_ | refine Sq.rt ?_ | refine Bq.rt ?_ | refine Lq.ex ?_ | refine Lq.rt ?_ | with_reducible refine seq.mk ?_ | with_reducible refine blk.mk ?_ )
      refine Lq.nx _ (Le.mk ?_ ?_ rfl rfl) ⟨i + 1, t, hlt, by omega, ht2, ht3, ht4, rfl⟩ ?_
      · exact ⟨rfl, rfl, rfl, rfl, rfl, rfl, congrArg (AV.i .i64) hwrap, trivial⟩
      · exact ⟨rfl, trivial⟩
      · show (_ - ((i + 1 : Nat) : Int)).toNat < (_ - (i : Int)).toNat
        omega
    rw [beq_iff] at hq
    have hne : other ≠ (l.getD i ac0).name := fun e => of_decide_eq_false hq e.symm
    repeat (first | (refine Sq.nx ?_; try dsimp only [St.put, rn, rns, rid, rnH, rnB, dead, AV.cells, setAt, enumEnv, List.length_nil, List.length_cons, List.getElem?_nil, List.getElem?_cons_zero, List.getElem?_cons_succ, Nat.reduceAdd, Nat.reduceSub, Nat.add_zero]) | refine Bq.nx ?_ | refine Bq.hit rfl ?_ | refine Bq.miss rfl ?_ | refine Sq.ex ?_ | refine Sq.rt ?_ | refine Bq.rt ?_ | refine Lq.ex ?_ | refine Lq.rt ?_ | with_reducible refine seq.mk ?_ | with_reducible refine blk.mk ?_ )
    refine brk.mk (fun _ => ?_) (fun _ => ?_)
    · repeat (first | (refine Sq.nx ?_; try dsimp only [St.put, rn, rns, rid, rnH, rnB, dead, AV.cells, setAt, enumEnv, List.length_nil, List.length_cons, List.getElem?_nil, List.getElem?_cons_zero, List.getElem?_cons_succ, Nat.reduceAdd, Nat.reduceSub, Nat.add_zero]) | refine Bq.nx ?_ | refine Bq.hit rfl ?_ | refine Bq.miss rfl ?_ | refine Sq.ex ?_ | refine Sq.rt ?_ | refine Bq.rt ?_ | refine Lq.ex ?_ | refine Lq.rt ?_ | with_reducible refine seq.mk ?_ | with_reducible refine blk.mk ?_ )
      have p1 := put13 t (l.getD i ac0).name (l.getD i ac0).data hlt2 (by omega)
      have hk := put_eff (s := t) (other := other) ht3 hN (by omega : (l.getD i ac0).data.size ≤ 65536) hne
      revert p1 hk
      generalize put t (l.getD i ac0).name (l.getD i ac0).data = r
      obtain ⟨⟨o', f'⟩, e⟩ := r
      intro p1 hk
      have hk1 : o'.length ≤ 30 + (i + 1) := by have := hk.objs; dsimp only at this; omega
      have hkf : f' = t.fates.tail := hk.fates
      have hk2 : f'.length ≤ 100 := by rw [hkf, List.length_tail]; omega
      have hk3 : Fit o' := hk.fit
      have hk4 : findR o' other = findR s.objs other := hk.find.trans ht4
      refine XCall.givv p1 ?_
      refine And.intro rfl (And.intro (AVles.refl _) ?_)
      repeat (first | (refine Sq.nx ?_; try dsimp only [St.put, rn, rns, rid, rnH, rnB, dead, AV.cells, setAt, enumEnv, List.length_nil, List.length_cons, List.getElem?_nil, List.getElem?_cons_zero, List.getElem?_cons_succ, Nat.reduceAdd, Nat.reduceSub, Nat.add_zero]) | refine Bq.nx ?_ | refine Bq.hit rfl ?_ | refine Bq.miss rfl ?_ | refine Sq.ex ?_ | refine Sq.rt ?_ | refine Bq.rt ?_ | refine Lq.ex ?_ | refine Lq.rt ?_ | with_reducible refine seq.mk ?_ | with_reducible refine blk.mk ?_ )
      refine brk.mk (fun h => ?_) (fun _ => ?_)
      · exfalso
        have hm := hmax f' hkf
        injection hm with _ hm
        rw [hm] at h
        exact ne _ h
      repeat (first | (refine Sq.nx ?_; try dsimp only [St.put, rn, rns, rid, rnH, rnB, dead, AV.cells, setAt, enumEnv, List.length_nil, List.length_cons, List.getElem?_nil, List.getElem?_cons_zero, List.getElem?_cons_succ, Nat.reduceAdd, Nat.reduceSub, Nat.add_zero]) | refine Bq.nx ?_ | refine Bq.hit rfl ?_ | refine Bq.miss rfl ?_ | refine Sq.ex ?_ | refine Sq.rt ?_ | refine Bq.rt ?_ | refine Lq.ex ?_ | refine Lq.rt ?_ | with_reducible refine seq.mk ?_ | with_reducible refine blk.mk ?_ )
      refine Lq.nx _ (Le.mk ?_ ?_ rfl rfl) ⟨i + 1, ⟨o', f'⟩, hlt, hk1, hk2, hk3, hk4, rfl⟩ ?_
      · exact ⟨rfl, rfl, rfl, rfl, rfl, hmax f' hkf, congrArg (AV.i .i64) hwrap, trivial⟩
      · exact ⟨rfl, trivial⟩
      · show (_ - ((i + 1 : Nat) : Int)).toNat < (_ - (i : Int)).toNat
        omega
    repeat (first | (refine Sq.nx ?_; try dsimp only [St.put, rn, rns, rid, rnH, rnB, dead, AV.cells, setAt, enumEnv, List.length_nil, List.length_cons, List.getElem?_nil, List.getElem?_cons_zero, List.getElem?_cons_succ, Nat.reduceAdd, Nat.reduceSub, Nat.add_zero]) | refine Bq.nx ?_ | refine Bq.hit rfl ?_ | refine Bq.miss rfl ?_ | refine Sq.ex ?_ | refine Sq.rt ?_ | refine Bq.rt ?_ | refine Lq.ex ?_ | refine Lq.rt ?_ | with_reducible refine seq.mk ?_ | with_reducible refine blk.mk ?_ )
    refine brk.mk (fun _ => ?_) (fun _ => ?_)
    · repeat (first | (refine Sq.nx ?_; try dsimp only [St.put, rn, rns, rid, rnH, rnB, dead, AV.cells, setAt, enumEnv, List.length_nil, List.length_cons, List.getElem?_nil, List.getElem?_cons_zero, List.getElem?_cons_succ, Nat.reduceAdd, Nat.reduceSub, Nat.add_zero]) | refine Bq.nx ?_ | refine Bq.hit rfl ?_ | refine Bq.miss rfl ?_ | refine Sq.ex ?_ | refine Sq.rt ?_ | refine Bq.rt ?_ | refine Lq.ex ?_ | refine Lq.rt ?_ | with_reducible refine seq.mk ?_ | with_reducible refine blk.mk ?_ )
      have p1 := get12 t (l.getD i ac0).name hlt2
      have hk := get_eff (s := t) (other := other) ht3 hN
      revert p1 hk
      generalize get t (l.getD i ac0).name = r
      obtain ⟨⟨o', f'⟩, got, e⟩ := r
      intro p1 hk
      have hk1 : o'.length ≤ 30 + (i + 1) := by have := hk.objs; dsimp only at this; omega
      have hkf : f' = t.fates.tail := hk.fates
      have hk2 : f'.length ≤ 100 := by rw [hkf, List.length_tail]; omega
      have hk3 : Fit o' := hk.fit
      have hk4 : findR o' other = findR s.objs other := hk.find.trans ht4
      refine XCall.givv p1 ?_
      refine And.intro rfl (And.intro (AVles.refl _) ?_)
      repeat (first | (refine Sq.nx ?_; try dsimp only [St.put, rn, rns, rid, rnH, rnB, dead, AV.cells, setAt, enumEnv, List.length_nil, List.length_cons, List.getElem?_nil, List.getElem?_cons_zero, List.getElem?_cons_succ, Nat.reduceAdd, Nat.reduceSub, Nat.add_zero]) | refine Bq.nx ?_ | refine Bq.hit rfl ?_ | refine Bq.miss rfl ?_ | refine Sq.ex ?_ | refine Sq.rt ?_ | refine Bq.rt ?_ | refine Lq.ex ?_ | refine Lq.rt ?_ | with_reducible refine seq.mk ?_ | with_reducible refine blk.mk ?_ )
      refine brk.mk (fun h => ?_) (fun _ => ?_)
      · exfalso
        have hm := hmax f' hkf
        injection hm with _ hm
        rw [hm] at h
        exact ne _ h
      repeat (first | (refine Sq.nx ?_; try dsimp only [St.put, rn, rns, rid, rnH, rnB, dead, AV.cells, setAt, enumEnv, List.length_nil, List.length_cons, List.getElem?_nil, List.getElem?_cons_zero, List.getElem?_cons_succ, Nat.reduceAdd, Nat.reduceSub, Nat.add_zero]) | refine Bq.nx ?_ | refine Bq.hit rfl ?_ | refine Bq.miss rfl ?_ | refine Sq.ex ?_ | refine Sq.rt ?_ | refine Bq.rt ?_ | refine Lq.ex ?_ | refine Lq.rt ?_ | with_reducible refine seq.mk ?_ | with_reducible refine blk.mk ?_ )
      refine Lq.nx _ (Le.mk ?_ ?_ rfl rfl) ⟨i + 1, ⟨o', f'⟩, hlt, hk1, hk2, hk3, hk4, rfl⟩ ?_
      · exact ⟨rfl, rfl, rfl, rfl, rfl, hmax f' hkf, congrArg (AV.i .i64) hwrap, trivial⟩
      · exact ⟨rfl, trivial⟩
      · show (_ - ((i + 1 : Nat) : Int)).toNat < (_ - (i : Int)).toNat
        omega
    repeat (first | (refine Sq.nx ?_; try dsimp only [St.put, rn, rns, rid, rnH, rnB, dead, AV.cells, setAt, enumEnv, List.length_nil, List.length_cons, List.getElem?_nil, List.getElem?_cons_zero, List.getElem?_cons_succ, Nat.reduceAdd, Nat.reduceSub, Nat.add_zero]) | refine Bq.nx ?_ | refine Bq.hit rfl ?_ | refine Bq.miss rfl ?_ | refine Sq.ex ?_ | refine Sq.rt ?_ | refine Bq.rt ?_ | refine Lq.ex ?_ | refine Lq.rt ?_ | with_reducible refine seq.mk ?_ | with_reducible refine blk.mk ?_ )
    refine brk.mk (fun _ => ?_) (fun _ => ?_)
    · repeat (first | (refine Sq.nx ?_; try dsimp only [St.put, rn, rns, rid, rnH, rnB, dead, AV.cells, setAt, enumEnv, List.length_nil, List.length_cons, List.getElem?_nil, List.getElem?_cons_zero, List.getElem?_cons_succ, Nat.reduceAdd, Nat.reduceSub, Nat.add_zero]) | refine Bq.nx ?_ | refine Bq.hit rfl ?_ | refine Bq.miss rfl ?_ | refine Sq.ex ?_ | refine Sq.rt ?_ | refine Bq.rt ?_ | refine Lq.ex ?_ | refine Lq.rt ?_ | with_reducible refine seq.mk ?_ | with_reducible refine blk.mk ?_ )
      have p1 := drop16 t (l.getD i ac0).name hlt2
      have hk := drop_eff (s := t) (other := other) ht3 hN hne
      revert p1 hk
      generalize drop t (l.getD i ac0).name = r
      obtain ⟨⟨o', f'⟩, e⟩ := r
      intro p1 hk
      have hk1 : o'.length ≤ 30 + (i + 1) := by have := hk.objs; dsimp only at this; omega
      have hkf : f' = t.fates.tail := hk.fates
      have hk2 : f'.length ≤ 100 := by rw [hkf, List.length_tail]; omega
      have hk3 : Fit o' := hk.fit
      have hk4 : findR o' other = findR s.objs other := hk.find.trans ht4
      refine XCall.givv p1 ?_
      refine And.intro rfl (And.intro (AVles.refl _) ?_)
      repeat (first | (refine Sq.nx ?_; try dsimp only [St.put, rn, rns, rid, rnH, rnB, dead, AV.cells, setAt, enumEnv, List.length_nil, List.length_cons, List.getElem?_nil, List.getElem?_cons_zero, List.getElem?_cons_succ, Nat.reduceAdd, Nat.reduceSub, Nat.add_zero]) | refine Bq.nx ?_ | refine Bq.hit rfl ?_ | refine Bq.miss rfl ?_ | refine Sq.ex ?_ | refine Sq.rt ?_ | refine Bq.rt ?_ | refine Lq.ex ?_ | refine Lq.rt ?_ | with_reducible refine seq.mk ?_ | with_reducible refine blk.mk ?_ )
      refine brk.mk (fun h => ?_) (fun _ => ?_)
      · exfalso
        have hm := hmax f' hkf
        injection hm with _ hm
        rw [hm] at h
        exact ne _ h
      repeat (first | (refine Sq.nx ?_; try dsimp only [St.put, rn, rns, rid, rnH, rnB, dead, AV.cells, setAt, enumEnv, List.length_nil, List.length_cons, List.getElem?_nil, List.getElem?_cons_zero, List.getElem?_cons_succ, Nat.reduceAdd, Nat.reduceSub, Nat.add_zero]) | refine Bq.nx ?_ | refine Bq.hit rfl ?_ | refine Bq.miss rfl ?_ | refine Sq.ex ?_ | refine Sq.rt ?_ | refine Bq.rt ?_ | refine Lq.ex ?_ | refine Lq.rt ?_ | with_reducible refine seq.mk ?_ | with_reducible refine blk.mk ?_ )
      refine Lq.nx _ (Le.mk ?_ ?_ rfl rfl) ⟨i + 1, ⟨o', f'⟩, hlt, hk1, hk2, hk3, hk4, rfl⟩ ?_
      · exact ⟨rfl, rfl, rfl, rfl, rfl, hmax f' hkf, congrArg (AV.i .i64) hwrap, trivial⟩
      · exact ⟨rfl, trivial⟩
      · show (_ - ((i + 1 : Nat) : Int)).toNat < (_ - (i : Int)).toNat
        omega
    · repeat (first | (refine Sq.nx ?_; try dsimp only [St.put, rn, rns, rid, rnH, rnB, dead, AV.cells, setAt, enumEnv, List.length_nil, List.length_cons, List.getElem?_nil, List.getElem?_cons_zero, List.getElem?_cons_succ, Nat.reduceAdd, Nat.reduceSub, Nat.add_zero]) | refine Bq.nx ?_ | refine Bq.hit rfl ?_ | refine Bq.miss rfl ?_ | refine Sq.ex ?_ | refine Sq.rt ?_ | refine Bq.rt ?_ | refine Lq.ex ?_ | refine Lq.rt ?_ | with_reducible refine seq.mk ?_ | with_reducible refine blk.mk ?_ )
      have p1 := names14 t (l.getD i ac0).name hlt2
      have hk := names_eff (s := t) (front := (l.getD i ac0).name) (other := other) ht3
      revert p1 hk
      generalize namesOf t (l.getD i ac0).name = r
      obtain ⟨⟨o', f'⟩, ls, e⟩ := r
      intro p1 hk
      have hk1 : o'.length ≤ 30 + (i + 1) := by have := hk.objs; dsimp only at this; omega
      have hkf : f' = t.fates.tail := hk.fates
      have hk2 : f'.length ≤ 100 := by rw [hkf, List.length_tail]; omega
      have hk3 : Fit o' := hk.fit
      have hk4 : findR o' other = findR s.objs other := hk.find.trans ht4
      refine XCall.givv p1 ?_
      refine And.intro rfl (And.intro (AVles.refl _) ?_)
      repeat (first | (refine Sq.nx ?_; try dsimp only [St.put, rn, rns, rid, rnH, rnB, dead, AV.cells, setAt, enumEnv, List.length_nil, List.length_cons, List.getElem?_nil, List.getElem?_cons_zero, List.getElem?_cons_succ, Nat.reduceAdd, Nat.reduceSub, Nat.add_zero]) | refine Bq.nx ?_ | refine Bq.hit rfl ?_ | refine Bq.miss rfl ?_ | refine Sq.ex ?_ | refine Sq.rt ?_ | refine Bq.rt ?_ | refine Lq.ex ?_ | refine Lq.rt ?_ | with_reducible refine seq.mk ?_ | with_reducible refine blk.mk ?_ )
      refine brk.mk (fun h => ?_) (fun _ => ?_)
      · exfalso
        have hm := hmax f' hkf
        injection hm with _ hm
        rw [hm] at h
        exact ne _ h
      repeat (first | (refine Sq.nx ?_; try dsimp only [St.put, rn, rns, rid, rnH, rnB, dead, AV.cells, setAt, enumEnv, List.length_nil, List.length_cons, List.getElem?_nil, List.getElem?_cons_zero, List.getElem?_cons_succ, Nat.reduceAdd, Nat.reduceSub, Nat.add_zero]) | refine Bq.nx ?_ | refine Bq.hit rfl ?_ | refine Bq.miss rfl ?_ | refine Sq.ex ?_ | refine Sq.rt ?_ | refine Bq.rt ?_ | refine Lq.ex ?_ | refine Lq.rt ?_ | with_reducible refine seq.mk ?_ | with_reducible refine blk.mk ?_ )
      refine Lq.nx _ (Le.mk ?_ ?_ rfl rfl) ⟨i + 1, ⟨o', f'⟩, hlt, hk1, hk2, hk3, hk4, rfl⟩ ?_
      · exact ⟨rfl, rfl, rfl, rfl, rfl, hmax f' hkf, congrArg (AV.i .i64) hwrap, trivial⟩
      · exact ⟨rfl, trivial⟩
      · show (_ - ((i + 1 : Nat) : Int)).toNat < (_ - (i : Int)).toNat
        omega
  repeat (first | (refine Sq.nx ?_; try dsimp only [St.put, rn, rns, rid, rnH, rnB, dead, AV.cells, setAt, enumEnv, List.length_nil, List.length_cons, List.getElem?_nil, List.getElem?_cons_zero, List.getElem?_cons_succ, Nat.reduceAdd, Nat.reduceSub, Nat.add_zero]) | refine Bq.nx ?_ | refine Bq.hit rfl ?_ | refine Bq.miss rfl ?_ | refine Sq.ex ?_ | refine Sq.rt ?_ | refine Bq.rt ?_ | refine Lq.ex ?_ | refine Lq.rt ?_ | with_reducible refine seq.mk ?_ | with_reducible refine blk.mk ?_ )
  refine XCall.givv (honest15 t) ?_
  refine And.intro rfl (And.intro (AVles.refl _) ?_)
  have p2 := get12 ⟨t.objs, []⟩ other ⟨by show t.objs.length ≤ _; omega, Nat.zero_le _⟩
  rw [get_told ht3 hO, ht4] at p2
  refine XCall.givv p2 ?_
  refine And.intro rfl (And.intro (AVles.refl _) ?_)
  repeat (first | (refine Sq.nx ?_; try dsimp only [St.put, rn, rns, rid, rnH, rnB, dead, AV.cells, setAt, enumEnv, List.length_nil, List.length_cons, List.getElem?_nil, List.getElem?_cons_zero, List.getElem?_cons_succ, Nat.reduceAdd, Nat.reduceSub, Nat.add_zero]) | refine Bq.nx ?_ | refine Bq.hit rfl ?_ | refine Bq.miss rfl ?_ | refine Sq.ex ?_ | refine Sq.rt ?_ | refine Bq.rt ?_ | refine Lq.ex ?_ | refine Lq.rt ?_ | with_reducible refine seq.mk ?_ | with_reducible refine blk.mk ?_ )
  refine brk.mk (fun _ => ?_) (fun h => by have h' : ((told (findR s.objs other)).1.toList == (told (findR s.objs other)).1.toList) = false := h; simp at h')
  refine brk.mk (fun _ => ?_) (fun h => by simp at h)
  refine XCall.lenv awake11 rfl ?_
  refine And.intro rfl (And.intro (AVles.refl _) ?_)
  repeat (first | (refine Sq.nx ?_; try dsimp only [St.put, rn, rns, rid, rnH, rnB, dead, AV.cells, setAt, enumEnv, List.length_nil, List.length_cons, List.getElem?_nil, List.getElem?_cons_zero, List.getElem?_cons_succ, Nat.reduceAdd, Nat.reduceSub, Nat.add_zero]) | refine Bq.nx ?_ | refine Bq.hit rfl ?_ | refine Bq.miss rfl ?_ | refine Sq.ex ?_ | refine Sq.rt ?_ | refine Bq.rt ?_ | refine Lq.ex ?_ | refine Lq.rt ?_ | with_reducible refine seq.mk ?_ | with_reducible refine blk.mk ?_ )
  refine Rq.rt ?_
  exact And.intro rfl (AVle.refl _)
end Go.Proofs.T

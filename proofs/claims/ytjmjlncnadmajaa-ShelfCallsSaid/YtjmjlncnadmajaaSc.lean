/-
  Parts of the proof: no statement of the seat is proved here.
-/
import Derived.Test.YtjmjlncnadmajaaSb
import Derived.Test.YtjmjlncnadmajaaEd
import Derived.Test.YtjmjlncnadmajaaRows
set_option linter.unusedSimpArgs false
set_option linter.unusedVariables false

namespace Go.Proofs.T
open Go Go.Hb

theorem not_named {x : ByteArray} (h : (!decide (1 ≤ x.size ∧ x.size ≤ 100)) = true) : ¬ Named x := fun hN => by
  rw [decide_eq_true (p := 1 ≤ x.size ∧ x.size ≤ 100) hN] at h
  cases h
theorem is_named {x : ByteArray} (h : (!decide (1 ≤ x.size ∧ x.size ≤ 100)) = false) : Named x := by
  cases h1 : decide (1 ≤ x.size ∧ x.size ≤ 100) with
  | true => exact of_decide_eq_true h1
  | false => rw [h1] at h; cases h
theorem bne_t {a b : Int} (h : (a != b) = true) : a ≠ b := fun e => by rw [e] at h; simp at h
theorem bne_f {a b : Int} (h : (a != b) = false) : a = b := by simpa using h
theorem beq_f {a b : Int} (h : (a == b) = false) : ¬ a = b := by simpa using h

def pAV (r : Sh × Int) : AV := .tup [sAV r.1, .i .i64 r.2]
theorem put20 (s : Sh) (name data : ByteArray) (hl : Small s) : Pure Try.prog 20 [sAV s, .s name, .s data] (fun r => r = pAV (put s name data)) := by
  refine Pure.weak (Post := fun r => AVle r (pAV (put s name data))) (Pure.of (XCall.body is20 rfl ?_)) fun r h => ⟨_, rfl, h⟩
  refine XCall.lenv (check9 s hl.1) rfl ?_
  refine And.intro rfl (And.intro (AVles.refl _) ?_)
  dsimp only [St.put, rn, rns, rid, rnH, rnB, dead, AV.cells, setAt, enumEnv, List.length_nil, List.length_cons, List.getElem?_nil, List.getElem?_cons_zero, List.getElem?_cons_succ, Nat.reduceAdd, Nat.reduceSub, Nat.add_zero]
  show aops _ _ _ _
  refine brk.mk (fun hc => ?_) (fun hc => ?_)
  · refine And.intro rfl ?_
    unfold put
    rw [if_pos (bne_t hc)]
    exact AVle.refl _
  have hc0 : check s.objs = 0 := bne_f hc
  dsimp only [St.put, rn, rns, rid, rnH, rnB, dead, AV.cells, setAt, enumEnv, List.length_nil, List.length_cons, List.getElem?_nil, List.getElem?_cons_zero, List.getElem?_cons_succ, Nat.reduceAdd, Nat.reduceSub, Nat.add_zero]
  refine XCall.lenv (name_spec name) rfl ?_
  refine And.intro rfl (And.intro (AVles.refl _) ?_)
  dsimp only [St.put, rn, rns, rid, rnH, rnB, dead, AV.cells, setAt, enumEnv, List.length_nil, List.length_cons, List.getElem?_nil, List.getElem?_cons_zero, List.getElem?_cons_succ, Nat.reduceAdd, Nat.reduceSub, Nat.add_zero]
  show aops _ _ _ _
  refine brk.mk (fun hn => ?_) (fun hn => ?_)
  · refine And.intro rfl ?_
    unfold put
    rw [if_neg (fun h => h hc0), if_pos (not_named hn)]
    exact AVle.refl _
  have hN := is_named hn
  dsimp only [St.put, rn, rns, rid, rnH, rnB, dead, AV.cells, setAt, enumEnv, List.length_nil, List.length_cons, List.getElem?_nil, List.getElem?_cons_zero, List.getElem?_cons_succ, Nat.reduceAdd, Nat.reduceSub, Nat.add_zero]
  show aops _ _ _ _
  refine brk.mk (fun hd => ?_) (fun hd => ?_)
  · have hd' : 65536 < data.size := by have := of_decide_eq_true hd; omega
    refine And.intro rfl ?_
    unfold put
    rw [if_neg (fun h => h hc0), if_neg (fun h => h hN), if_pos hd']
    exact AVle.refl _
  have hd' : ¬ 65536 < data.size := by have := of_decide_eq_false hd; omega
  dsimp only [St.put, rn, rns, rid, rnH, rnB, dead, AV.cells, setAt, enumEnv, List.length_nil, List.length_cons, List.getElem?_nil, List.getElem?_cons_zero, List.getElem?_cons_succ, Nat.reduceAdd, Nat.reduceSub, Nat.add_zero]
  refine XCall.givv (fate32 s) ?_
  refine And.intro rfl (And.intro (AVles.refl _) ?_)
  dsimp only [St.put, rn, rns, rid, rnH, rnB, dead, AV.cells, setAt, enumEnv, List.length_nil, List.length_cons, List.getElem?_nil, List.getElem?_cons_zero, List.getElem?_cons_succ, Nat.reduceAdd, Nat.reduceSub, Nat.add_zero]
  show aops _ _ _ _
  have hS : Sorted s.objs := sorted_of (check0.1 hc0)
  refine brk.mk (fun h4 => ?_) (fun h4 => ?_)
  · rw [fateR_eq s 4 (by decide) (by decide)] at h4
    refine And.intro rfl ?_
    unfold put
    rw [if_neg (fun h => h hc0), if_neg (fun h => h hN), if_neg hd', if_pos (eq_of_beq h4)]
    exact AVle.refl _
  rw [fateR_eq s 4 (by decide) (by decide)] at h4
  have n4 := beq_f h4
  dsimp only [St.put, rn, rns, rid, rnH, rnB, dead, AV.cells, setAt, enumEnv, List.length_nil, List.length_cons, List.getElem?_nil, List.getElem?_cons_zero, List.getElem?_cons_succ, Nat.reduceAdd, Nat.reduceSub, Nat.add_zero]
  show aops _ _ _ _
  refine brk.mk (fun h1 => ?_) (fun h1 => ?_)
  · rw [fateR_eq s 1 (by decide) (by decide)] at h1
    refine And.intro rfl ?_
    unfold put
    rw [if_neg (fun h => h hc0), if_neg (fun h => h hN), if_neg hd', if_neg n4, if_pos (.inl (eq_of_beq h1))]
    exact AVle.refl _
  rw [fateR_eq s 1 (by decide) (by decide)] at h1
  have n1 := beq_f h1
  refine brk.mk (fun h3 => ?_) (fun h3 => ?_)
  · rw [fateR_eq s 3 (by decide) (by decide)] at h3
    refine And.intro rfl ?_
    unfold put
    rw [if_neg (fun h => h hc0), if_neg (fun h => h hN), if_neg hd', if_neg n4, if_pos (.inr (eq_of_beq h3))]
    exact AVle.refl _
  rw [fateR_eq s 3 (by decide) (by decide)] at h3
  have n3 := beq_f h3
  have last : ∀ (d : ByteArray), (if fateOf s = 2 then flip data else data) = d → AVle (pAV (⟨wo s.objs name true ⟨name, d, (match findR s.objs name with
      | some x => x
      | none => ob0).data, (findR s.objs name).isSome⟩, s.fates.tail⟩, 0)) (pAV (put s name data)) := by
    intro d e
    unfold put
    rw [if_neg (fun h => h hc0), if_neg (fun h => h hN), if_neg hd', if_neg n4, if_neg (fun h => h.elim n1 n3), e, findR_eq hS]
    unfold upd
    by_cases h : there s.objs name
    · rw [if_pos h, if_pos h, wo_there hS h]
      exact AVle.refl _
    · rw [if_neg h, if_neg h, wo_not hS h]
      exact AVle.refl _
  dsimp only [St.put, rn, rns, rid, rnH, rnB, dead, AV.cells, setAt, enumEnv, List.length_nil, List.length_cons, List.getElem?_nil, List.getElem?_cons_zero, List.getElem?_cons_succ, Nat.reduceAdd, Nat.reduceSub, Nat.add_zero]
  show aops _ _ _ _
  refine brk.mk (fun h2 => ?_) (fun h2 => ?_)
  · rw [fateR_eq s 2 (by decide) (by decide)] at h2
    have f2 : (if fateOf s = 2 then flip data else data) = flip data := if_pos (eq_of_beq h2)
    refine XCall.lenv (flip33 data (by omega)) rfl ?_
    refine And.intro rfl (And.intro (AVles.refl _) ?_)
    dsimp only [St.put, rn, rns, rid, rnH, rnB, dead, AV.cells, setAt, enumEnv, List.length_nil, List.length_cons, List.getElem?_nil, List.getElem?_cons_zero, List.getElem?_cons_succ, Nat.reduceAdd, Nat.reduceSub, Nat.add_zero]
    refine XCall.givv (find34 ⟨s.objs, s.fates.tail⟩ name hl.1) ?_
    refine And.intro rfl (And.intro (AVles.refl _) ?_)
    have l2 := last _ f2
    dsimp only
    revert l2
    cases findR s.objs name with
    | some x =>
      intro l2
      dsimp only [St.put, rn, rns, rid, rnH, rnB, dead, AV.cells, setAt, enumEnv, List.length_nil, List.length_cons, List.getElem?_nil, List.getElem?_cons_zero, List.getElem?_cons_succ, Nat.reduceAdd, Nat.reduceSub, Nat.add_zero]
      refine XCall.givv (without35 ⟨s.objs, s.fates.tail⟩ name true ⟨name, flip data, x.data, true⟩ hl.1) ?_
      refine And.intro rfl (And.intro (AVles.cons (AVle.refl _) (AVles.cons (AVle.refl _) (AVles.cons AVle.tt (AVles.refl _)))) ?_)
      exact And.intro rfl l2
    | none =>
      intro l2
      dsimp only [St.put, rn, rns, rid, rnH, rnB, dead, AV.cells, setAt, enumEnv, List.length_nil, List.length_cons, List.getElem?_nil, List.getElem?_cons_zero, List.getElem?_cons_succ, Nat.reduceAdd, Nat.reduceSub, Nat.add_zero]
      refine XCall.givv (without35 ⟨s.objs, s.fates.tail⟩ name true ⟨name, flip data, ob0.data, false⟩ hl.1) ?_
      refine And.intro rfl (And.intro (AVles.cons (AVle.refl _) (AVles.cons (AVle.refl _) (AVles.cons AVle.tt (AVles.refl _)))) ?_)
      exact And.intro rfl l2
  · rw [fateR_eq s 2 (by decide) (by decide)] at h2
    have f2 : (if fateOf s = 2 then flip data else data) = data := if_neg (beq_f h2)
    dsimp only [St.put, rn, rns, rid, rnH, rnB, dead, AV.cells, setAt, enumEnv, List.length_nil, List.length_cons, List.getElem?_nil, List.getElem?_cons_zero, List.getElem?_cons_succ, Nat.reduceAdd, Nat.reduceSub, Nat.add_zero]
    refine XCall.givv (find34 ⟨s.objs, s.fates.tail⟩ name hl.1) ?_
    refine And.intro rfl (And.intro (AVles.refl _) ?_)
    have l2 := last _ f2
    dsimp only
    revert l2
    cases findR s.objs name with
    | some x =>
      intro l2
      dsimp only [St.put, rn, rns, rid, rnH, rnB, dead, AV.cells, setAt, enumEnv, List.length_nil, List.length_cons, List.getElem?_nil, List.getElem?_cons_zero, List.getElem?_cons_succ, Nat.reduceAdd, Nat.reduceSub, Nat.add_zero]
      refine XCall.givv (without35 ⟨s.objs, s.fates.tail⟩ name true ⟨name, data, x.data, true⟩ hl.1) ?_
      refine And.intro rfl (And.intro (AVles.cons (AVle.refl _) (AVles.cons (AVle.refl _) (AVles.cons AVle.tt (AVles.refl _)))) ?_)
      exact And.intro rfl l2
    | none =>
      intro l2
      dsimp only [St.put, rn, rns, rid, rnH, rnB, dead, AV.cells, setAt, enumEnv, List.length_nil, List.length_cons, List.getElem?_nil, List.getElem?_cons_zero, List.getElem?_cons_succ, Nat.reduceAdd, Nat.reduceSub, Nat.add_zero]
      refine XCall.givv (without35 ⟨s.objs, s.fates.tail⟩ name true ⟨name, data, ob0.data, false⟩ hl.1) ?_
      refine And.intro rfl (And.intro (AVles.cons (AVle.refl _) (AVles.cons (AVle.refl _) (AVles.cons AVle.tt (AVles.refl _)))) ?_)
      exact And.intro rfl l2
end Go.Proofs.T

namespace Go.Proofs.T
open Go Go.Hb

theorem get21 (s : Sh) (name : ByteArray) (hl : Small s) : Pure Try.prog 21 [sAV s, .s name] (fun r => r = gAV (get s name)) := by
  refine Pure.weak (Post := fun r => AVle r (gAV (get s name))) (Pure.of (XCall.body is21 rfl ?_)) fun r h => ⟨_, rfl, h⟩
  refine XCall.lenv (check9 s hl.1) rfl ?_
  refine And.intro rfl (And.intro (AVles.refl _) ?_)
  dsimp only [St.put, rn, rns, rid, rnH, rnB, dead, AV.cells, setAt, enumEnv, List.length_nil, List.length_cons, List.getElem?_nil, List.getElem?_cons_zero, List.getElem?_cons_succ, Nat.reduceAdd, Nat.reduceSub, Nat.add_zero]
  show aops _ _ _ _
  refine brk.mk (fun hc => ?_) (fun hc => ?_)
  · refine And.intro rfl ?_
    unfold get
    rw [if_pos (bne_t hc)]
    exact AVle.refl _
  have hc0 : check s.objs = 0 := bne_f hc
  dsimp only [St.put, rn, rns, rid, rnH, rnB, dead, AV.cells, setAt, enumEnv, List.length_nil, List.length_cons, List.getElem?_nil, List.getElem?_cons_zero, List.getElem?_cons_succ, Nat.reduceAdd, Nat.reduceSub, Nat.add_zero]
  refine XCall.lenv (name_spec name) rfl ?_
  refine And.intro rfl (And.intro (AVles.refl _) ?_)
  dsimp only [St.put, rn, rns, rid, rnH, rnB, dead, AV.cells, setAt, enumEnv, List.length_nil, List.length_cons, List.getElem?_nil, List.getElem?_cons_zero, List.getElem?_cons_succ, Nat.reduceAdd, Nat.reduceSub, Nat.add_zero]
  show aops _ _ _ _
  refine brk.mk (fun hn => ?_) (fun hn => ?_)
  · refine And.intro rfl ?_
    unfold get
    rw [if_neg (fun h => h hc0), if_pos (not_named hn)]
    exact AVle.refl _
  have hN := is_named hn
  dsimp only [St.put, rn, rns, rid, rnH, rnB, dead, AV.cells, setAt, enumEnv, List.length_nil, List.length_cons, List.getElem?_nil, List.getElem?_cons_zero, List.getElem?_cons_succ, Nat.reduceAdd, Nat.reduceSub, Nat.add_zero]
  refine XCall.givv (fate32 s) ?_
  refine And.intro rfl (And.intro (AVles.refl _) ?_)
  dsimp only [St.put, rn, rns, rid, rnH, rnB, dead, AV.cells, setAt, enumEnv, List.length_nil, List.length_cons, List.getElem?_nil, List.getElem?_cons_zero, List.getElem?_cons_succ, Nat.reduceAdd, Nat.reduceSub, Nat.add_zero]
  have hS : Sorted s.objs := sorted_of (check0.1 hc0)
  refine XCall.givv (find34 ⟨s.objs, s.fates.tail⟩ name hl.1) ?_
  refine And.intro rfl (And.intro (AVles.refl _) ?_)
  dsimp only
  rw [findR_eq hS]
  by_cases hth : there s.objs name
  · rw [if_pos hth]
    dsimp only [St.put, rn, rns, rid, rnH, rnB, dead, AV.cells, setAt, enumEnv, List.length_nil, List.length_cons, List.getElem?_nil, List.getElem?_cons_zero, List.getElem?_cons_succ, Nat.reduceAdd, Nat.reduceSub, Nat.add_zero]
    show aops _ _ _ _
    refine brk.mk (fun h4 => ?_) (fun h4 => ?_)
    · rw [fateR_eq s 4 (by decide) (by decide)] at h4
      refine And.intro rfl ?_
      unfold get
      rw [if_neg (fun h => h hc0), if_neg (fun h => h hN), if_pos (eq_of_beq h4)]
      exact AVle.refl _
    rw [fateR_eq s 4 (by decide) (by decide)] at h4
    have n4 := beq_f h4
    dsimp only [St.put, rn, rns, rid, rnH, rnB, dead, AV.cells, setAt, enumEnv, List.length_nil, List.length_cons, List.getElem?_nil, List.getElem?_cons_zero, List.getElem?_cons_succ, Nat.reduceAdd, Nat.reduceSub, Nat.add_zero]
    show aops _ _ _ _
    refine brk.mk (fun h => by cases h) (fun _ => ?_)
    refine brk.mk (fun h1 => ?_) (fun h1 => ?_)
    · rw [fateR_eq s 1 (by decide) (by decide)] at h1
      refine And.intro rfl ?_
      unfold get
      rw [if_neg (fun h => h hc0), if_neg (fun h => h hN), if_neg n4, if_pos (.inl (eq_of_beq h1))]
      exact AVle.refl _
    rw [fateR_eq s 1 (by decide) (by decide)] at h1
    have n1 := beq_f h1
    refine brk.mk (fun h3 => ?_) (fun h3 => ?_)
    · have h3' := h3
      rw [fateR_eq s 3 (by decide) (by decide)] at h3
      have f3 : fateOf s = 3 := eq_of_beq h3
      refine brk.mk (fun hh => ?_) (fun hh => ?_)
      · have hhd : (s.objs.getD (pos s.objs name) ob0).had = false := by simpa using hh
        refine And.intro rfl ?_
        unfold get
        rw [if_neg (fun h => h hc0), if_neg (fun h => h hN), if_neg n4, if_pos (.inr (.inr ⟨f3, hhd⟩))]
        exact AVle.refl _
      · have hhd : ¬ (s.objs.getD (pos s.objs name) ob0).had = false := fun e => by rw [e] at hh; cases hh
        dsimp only [St.put, rn, rns, rid, rnH, rnB, dead, AV.cells, setAt, enumEnv, List.length_nil, List.length_cons, List.getElem?_nil, List.getElem?_cons_zero, List.getElem?_cons_succ, Nat.reduceAdd, Nat.reduceSub, Nat.add_zero]
        show aops _ _ _ _
        refine brk.mk (fun _ => ?_) (fun h => by rw [h3'] at h; cases h)
        dsimp only [St.put, rn, rns, rid, rnH, rnB, dead, AV.cells, setAt, enumEnv, List.length_nil, List.length_cons, List.getElem?_nil, List.getElem?_cons_zero, List.getElem?_cons_succ, Nat.reduceAdd, Nat.reduceSub, Nat.add_zero]
        refine And.intro rfl ?_
        refine And.intro rfl ?_
        unfold get
        rw [if_neg (fun h => h hc0), if_neg (fun h => h hN), if_neg n4, if_neg (fun h => h.elim n1 fun h => h.elim (fun h => h hth) fun h => hhd h.2), if_pos f3]
        exact AVle.refl _
    · have h3' := h3
      rw [fateR_eq s 3 (by decide) (by decide)] at h3
      have f3 : ¬ fateOf s = 3 := beq_f h3
      dsimp only [St.put, rn, rns, rid, rnH, rnB, dead, AV.cells, setAt, enumEnv, List.length_nil, List.length_cons, List.getElem?_nil, List.getElem?_cons_zero, List.getElem?_cons_succ, Nat.reduceAdd, Nat.reduceSub, Nat.add_zero]
      show aops _ _ _ _
      refine brk.mk (fun h => by rw [h3'] at h; cases h) (fun _ => ?_)
      dsimp only [St.put, rn, rns, rid, rnH, rnB, dead, AV.cells, setAt, enumEnv, List.length_nil, List.length_cons, List.getElem?_nil, List.getElem?_cons_zero, List.getElem?_cons_succ, Nat.reduceAdd, Nat.reduceSub, Nat.add_zero]
      show aops _ _ _ _
      refine brk.mk (fun h2 => ?_) (fun h2 => ?_)
      · rw [fateR_eq s 2 (by decide) (by decide)] at h2
        have hbig := (check0.1 hc0 _ hth.1).big
        dsimp only [St.put, rn, rns, rid, rnH, rnB, dead, AV.cells, setAt, enumEnv, List.length_nil, List.length_cons, List.getElem?_nil, List.getElem?_cons_zero, List.getElem?_cons_succ, Nat.reduceAdd, Nat.reduceSub, Nat.add_zero]
        refine XCall.lenv (flip33 (s.objs.getD (pos s.objs name) ob0).data (by omega)) rfl ?_
        refine And.intro rfl (And.intro (AVles.refl _) ?_)
        dsimp only [St.put, rn, rns, rid, rnH, rnB, dead, AV.cells, setAt, enumEnv, List.length_nil, List.length_cons, List.getElem?_nil, List.getElem?_cons_zero, List.getElem?_cons_succ, Nat.reduceAdd, Nat.reduceSub, Nat.add_zero]
        refine And.intro rfl ?_
        refine And.intro rfl ?_
        unfold get
        rw [if_neg (fun h => h hc0), if_neg (fun h => h hN), if_neg n4, if_neg (fun h => h.elim n1 fun h => h.elim (fun h => h hth) fun h => f3 h.1), if_neg f3, if_pos (eq_of_beq h2)]
        exact AVle.refl _
      · rw [fateR_eq s 2 (by decide) (by decide)] at h2
        dsimp only [St.put, rn, rns, rid, rnH, rnB, dead, AV.cells, setAt, enumEnv, List.length_nil, List.length_cons, List.getElem?_nil, List.getElem?_cons_zero, List.getElem?_cons_succ, Nat.reduceAdd, Nat.reduceSub, Nat.add_zero]
        refine And.intro rfl ?_
        refine And.intro rfl ?_
        unfold get
        rw [if_neg (fun h => h hc0), if_neg (fun h => h hN), if_neg n4, if_neg (fun h => h.elim n1 fun h => h.elim (fun h => h hth) fun h => f3 h.1), if_neg f3, if_neg (beq_f h2)]
        exact AVle.refl _
  · rw [if_neg hth]
    dsimp only [St.put, rn, rns, rid, rnH, rnB, dead, AV.cells, setAt, enumEnv, List.length_nil, List.length_cons, List.getElem?_nil, List.getElem?_cons_zero, List.getElem?_cons_succ, Nat.reduceAdd, Nat.reduceSub, Nat.add_zero]
    show aops _ _ _ _
    refine brk.mk (fun h4 => ?_) (fun h4 => ?_)
    · rw [fateR_eq s 4 (by decide) (by decide)] at h4
      refine And.intro rfl ?_
      unfold get
      rw [if_neg (fun h => h hc0), if_neg (fun h => h hN), if_pos (eq_of_beq h4)]
      exact AVle.refl _
    rw [fateR_eq s 4 (by decide) (by decide)] at h4
    have n4 := beq_f h4
    dsimp only [St.put, rn, rns, rid, rnH, rnB, dead, AV.cells, setAt, enumEnv, List.length_nil, List.length_cons, List.getElem?_nil, List.getElem?_cons_zero, List.getElem?_cons_succ, Nat.reduceAdd, Nat.reduceSub, Nat.add_zero]
    show aops _ _ _ _
    refine brk.mk (fun _ => ?_) (fun h => by cases h)
    refine And.intro rfl ?_
    unfold get
    rw [if_neg (fun h => h hc0), if_neg (fun h => h hN), if_neg n4, if_pos (.inr (.inl hth))]
    exact AVle.refl _

theorem drop22 (s : Sh) (name : ByteArray) (hl : Small s) : Pure Try.prog 22 [sAV s, .s name] (fun r => r = pAV (drop s name)) := by
  refine Pure.weak (Post := fun r => AVle r (pAV (drop s name))) (Pure.of (XCall.body is22 rfl ?_)) fun r h => ⟨_, rfl, h⟩
  refine XCall.lenv (check9 s hl.1) rfl ?_
  refine And.intro rfl (And.intro (AVles.refl _) ?_)
  dsimp only [St.put, rn, rns, rid, rnH, rnB, dead, AV.cells, setAt, enumEnv, List.length_nil, List.length_cons, List.getElem?_nil, List.getElem?_cons_zero, List.getElem?_cons_succ, Nat.reduceAdd, Nat.reduceSub, Nat.add_zero]
  show aops _ _ _ _
  refine brk.mk (fun hc => ?_) (fun hc => ?_)
  · refine And.intro rfl ?_
    unfold drop
    rw [if_pos (bne_t hc)]
    exact AVle.refl _
  have hc0 : check s.objs = 0 := bne_f hc
  dsimp only [St.put, rn, rns, rid, rnH, rnB, dead, AV.cells, setAt, enumEnv, List.length_nil, List.length_cons, List.getElem?_nil, List.getElem?_cons_zero, List.getElem?_cons_succ, Nat.reduceAdd, Nat.reduceSub, Nat.add_zero]
  refine XCall.lenv (name_spec name) rfl ?_
  refine And.intro rfl (And.intro (AVles.refl _) ?_)
  dsimp only [St.put, rn, rns, rid, rnH, rnB, dead, AV.cells, setAt, enumEnv, List.length_nil, List.length_cons, List.getElem?_nil, List.getElem?_cons_zero, List.getElem?_cons_succ, Nat.reduceAdd, Nat.reduceSub, Nat.add_zero]
  show aops _ _ _ _
  refine brk.mk (fun hn => ?_) (fun hn => ?_)
  · refine And.intro rfl ?_
    unfold drop
    rw [if_neg (fun h => h hc0), if_pos (not_named hn)]
    exact AVle.refl _
  have hN := is_named hn
  dsimp only [St.put, rn, rns, rid, rnH, rnB, dead, AV.cells, setAt, enumEnv, List.length_nil, List.length_cons, List.getElem?_nil, List.getElem?_cons_zero, List.getElem?_cons_succ, Nat.reduceAdd, Nat.reduceSub, Nat.add_zero]
  refine XCall.givv (fate32 s) ?_
  refine And.intro rfl (And.intro (AVles.refl _) ?_)
  dsimp only [St.put, rn, rns, rid, rnH, rnB, dead, AV.cells, setAt, enumEnv, List.length_nil, List.length_cons, List.getElem?_nil, List.getElem?_cons_zero, List.getElem?_cons_succ, Nat.reduceAdd, Nat.reduceSub, Nat.add_zero]
  have hS : Sorted s.objs := sorted_of (check0.1 hc0)
  show aops _ _ _ _
  refine brk.mk (fun h4 => ?_) (fun h4 => ?_)
  · rw [fateR_eq s 4 (by decide) (by decide)] at h4
    refine And.intro rfl ?_
    unfold drop
    rw [if_neg (fun h => h hc0), if_neg (fun h => h hN), if_pos (eq_of_beq h4)]
    exact AVle.refl _
  rw [fateR_eq s 4 (by decide) (by decide)] at h4
  have n4 := beq_f h4
  dsimp only [St.put, rn, rns, rid, rnH, rnB, dead, AV.cells, setAt, enumEnv, List.length_nil, List.length_cons, List.getElem?_nil, List.getElem?_cons_zero, List.getElem?_cons_succ, Nat.reduceAdd, Nat.reduceSub, Nat.add_zero]
  show aops _ _ _ _
  refine brk.mk (fun h1 => ?_) (fun h1 => ?_)
  · rw [fateR_eq s 1 (by decide) (by decide)] at h1
    refine And.intro rfl ?_
    unfold drop
    rw [if_neg (fun h => h hc0), if_neg (fun h => h hN), if_neg n4, if_pos (.inl (eq_of_beq h1))]
    exact AVle.refl _
  rw [fateR_eq s 1 (by decide) (by decide)] at h1
  have n1 := beq_f h1
  refine brk.mk (fun h3 => ?_) (fun h3 => ?_)
  · rw [fateR_eq s 3 (by decide) (by decide)] at h3
    refine And.intro rfl ?_
    unfold drop
    rw [if_neg (fun h => h hc0), if_neg (fun h => h hN), if_neg n4, if_pos (.inr (eq_of_beq h3))]
    exact AVle.refl _
  rw [fateR_eq s 3 (by decide) (by decide)] at h3
  have n3 := beq_f h3
  dsimp only [St.put, rn, rns, rid, rnH, rnB, dead, AV.cells, setAt, enumEnv, List.length_nil, List.length_cons, List.getElem?_nil, List.getElem?_cons_zero, List.getElem?_cons_succ, Nat.reduceAdd, Nat.reduceSub, Nat.add_zero]
  refine XCall.givv (find34 ⟨s.objs, s.fates.tail⟩ name hl.1) ?_
  refine And.intro rfl (And.intro (AVles.refl _) ?_)
  dsimp only
  rw [findR_eq hS]
  by_cases hth : there s.objs name
  · rw [if_pos hth]
    dsimp only [St.put, rn, rns, rid, rnH, rnB, dead, AV.cells, setAt, enumEnv, List.length_nil, List.length_cons, List.getElem?_nil, List.getElem?_cons_zero, List.getElem?_cons_succ, Nat.reduceAdd, Nat.reduceSub, Nat.add_zero]
    show aops _ _ _ _
    refine brk.mk (fun h => by cases h) (fun _ => ?_)
    dsimp only [St.put, rn, rns, rid, rnH, rnB, dead, AV.cells, setAt, enumEnv, List.length_nil, List.length_cons, List.getElem?_nil, List.getElem?_cons_zero, List.getElem?_cons_succ, Nat.reduceAdd, Nat.reduceSub, Nat.add_zero]
    refine XCall.givv (without35 ⟨s.objs, s.fates.tail⟩ name false ob0 hl.1) ?_
    refine And.intro rfl (And.intro (AVles.cons (AVle.refl _) (AVles.cons (AVle.refl _) (AVles.cons AVle.ff (AVles.cons (AVle.agg (AVles.cons (AVle.refl _) (AVles.cons (AVle.refl _) (AVles.cons (AVle.refl _) (AVles.cons AVle.ff AVles.nil))))) AVles.nil)))) ?_)
    refine And.intro rfl ?_
    unfold drop
    rw [if_neg (fun h => h hc0), if_neg (fun h => h hN), if_neg n4, if_neg (fun h => h.elim n1 n3), if_neg (fun h => h hth), ← wo_del hS hth ob0]
    exact AVle.refl _
  · rw [if_neg hth]
    dsimp only [St.put, rn, rns, rid, rnH, rnB, dead, AV.cells, setAt, enumEnv, List.length_nil, List.length_cons, List.getElem?_nil, List.getElem?_cons_zero, List.getElem?_cons_succ, Nat.reduceAdd, Nat.reduceSub, Nat.add_zero]
    show aops _ _ _ _
    refine brk.mk (fun _ => ?_) (fun h => by cases h)
    refine And.intro rfl ?_
    unfold drop
    rw [if_neg (fun h => h hc0), if_neg (fun h => h hN), if_neg n4, if_neg (fun h => h.elim n1 n3), if_pos hth]
    exact AVle.refl _
end Go.Proofs.T

namespace Go.Proofs.T
open Go Go.Hb

/-- The reference's question. -/
def keepR (f : Int) (front : ByteArray) (x : Ob) : Bool := (pre x.name front && f != 1) && (f != 3 || x.had)
def namesR (f : Int) (front : ByteArray) (l : List Ob) : List ByteArray := (l.filter (keepR f front)).map (·.name)
theorem namesR_one {f : Int} {front : ByteArray} {l : List Ob} {i : Nat} (hi : i < l.length) : namesR f front (l.take (i + 1)) = namesR f front (l.take i) ++ (match keepR f front (l.getD i ob0) with
    | true => [(l.getD i ob0).name]
    | false => []) := by
  rw [take_one hi]
  unfold namesR
  rw [List.filter_append, List.map_append]
  congr 1
  cases h : keepR f front (l.getD i ob0) with
  | true => rw [List.filter_cons_of_pos h]; rfl
  | false => rw [List.filter_cons_of_neg (by rw [h]; decide)]; rfl
theorem namesR_len {f : Int} {front : ByteArray} {l : List Ob} (i : Nat) : (namesR f front (l.take i)).length ≤ i := by
  unfold namesR
  rw [List.length_map]
  exact Nat.le_trans (List.length_filter_le _ _) (by simp; omega)
theorem keepR_eq (s : Sh) (front : ByteArray) (x : Ob) : keepR (fateR s) front x = (pre x.name front && fateOf s != 1 && (fateOf s != 3 || x.had)) := by
  have e1 : (fateR s != 1) = (fateOf s != 1) := congrArg Bool.not (fateR_eq s 1 (by decide) (by decide))
  have e3 : (fateR s != 3) = (fateOf s != 3) := congrArg Bool.not (fateR_eq s 3 (by decide) (by decide))
  unfold keepR
  rw [e1, e3]
theorem namesR_1 (s : Sh) (front : ByteArray) (h : fateOf s = 1) (l : List Ob) : namesR (fateR s) front l = [] := by
  unfold namesR
  rw [List.filter_eq_nil_iff.2 fun x _ => by rw [keepR_eq, h]; simp]
  rfl
theorem namesR_n1 (s : Sh) (front : ByteArray) (h : ¬ fateOf s = 1) (l : List Ob) : namesR (fateR s) front l = names (fateOf s) front l := by
  unfold namesR names
  congr 2
  funext x
  rw [keepR_eq, show (fateOf s != 1) = true by simpa using h]
  unfold keep
  simp

theorem names23 (s : Sh) (front : ByteArray) (hl : Small s) : Pure Try.prog 23 [sAV s, .s front] (fun r => r = nAV (namesOf s front)) := by
  refine Pure.weak (Post := fun r => AVle r (nAV (namesOf s front))) (Pure.of (XCall.bodyq is23 rfl ?_)) fun r h => ⟨_, rfl, h⟩
  unfold m23
  repeat (first | (refine Sq.nx ?_; try dsimp only [St.put, rn, rns, rid, rnH, rnB, dead, AV.cells, setAt, enumEnv, List.length_nil, List.length_cons, List.getElem?_nil, List.getElem?_cons_zero, List.getElem?_cons_succ, Nat.reduceAdd, Nat.reduceSub, Nat.add_zero]) | refine Bq.nx ?_ | refine Bq.hit rfl ?_ | refine Bq.miss rfl ?_ | refine Sq.ex ?_ | refine Sq.rt ?_ | refine Bq.rt ?_ | refine Lq.ex ?_ | refine Lq.rt ?_ | with_reducible refine seq.mk ?_ | with_reducible refine blk.mk ?_ )
  refine XCall.lenv (check9 s hl.1) rfl ?_
  refine And.intro rfl (And.intro (AVles.refl _) ?_)
  repeat (first | (refine Sq.nx ?_; try dsimp only [St.put, rn, rns, rid, rnH, rnB, dead, AV.cells, setAt, enumEnv, List.length_nil, List.length_cons, List.getElem?_nil, List.getElem?_cons_zero, List.getElem?_cons_succ, Nat.reduceAdd, Nat.reduceSub, Nat.add_zero]) | refine Bq.nx ?_ | refine Bq.hit rfl ?_ | refine Bq.miss rfl ?_ | refine Sq.ex ?_ | refine Sq.rt ?_ | refine Bq.rt ?_ | refine Lq.ex ?_ | refine Lq.rt ?_ | with_reducible refine seq.mk ?_ | with_reducible refine blk.mk ?_ )
  refine brk.mk (fun hc => ?_) (fun hc => ?_)
  · have hc0 : check s.objs ≠ 0 := bne_t hc
    repeat (first | (refine Sq.nx ?_; try dsimp only [St.put, rn, rns, rid, rnH, rnB, dead, AV.cells, setAt, enumEnv, List.length_nil, List.length_cons, List.getElem?_nil, List.getElem?_cons_zero, List.getElem?_cons_succ, Nat.reduceAdd, Nat.reduceSub, Nat.add_zero]) | refine Bq.nx ?_ | refine Bq.hit rfl ?_ | refine Bq.miss rfl ?_ | refine Sq.ex ?_ | refine Sq.rt ?_ | refine Bq.rt ?_ | refine Lq.ex ?_ | refine Lq.rt ?_ | with_reducible refine seq.mk ?_ | with_reducible refine blk.mk ?_ )
    refine Rq.rt ?_
    refine And.intro rfl ?_
    unfold namesOf
    rw [if_pos hc0]
    exact AVle.tup (AVles.cons (AVle.refl _) (AVles.cons (AVle.fs fun i j h => absurd h (Nat.not_lt_zero _)) (AVles.refl _)))
  have hc0 : check s.objs = 0 := bne_f hc
  repeat (first | (refine Sq.nx ?_; try dsimp only [St.put, rn, rns, rid, rnH, rnB, dead, AV.cells, setAt, enumEnv, List.length_nil, List.length_cons, List.getElem?_nil, List.getElem?_cons_zero, List.getElem?_cons_succ, Nat.reduceAdd, Nat.reduceSub, Nat.add_zero]) | refine Bq.nx ?_ | refine Bq.hit rfl ?_ | refine Bq.miss rfl ?_ | refine Sq.ex ?_ | refine Sq.rt ?_ | refine Bq.rt ?_ | refine Lq.ex ?_ | refine Lq.rt ?_ | with_reducible refine seq.mk ?_ | with_reducible refine blk.mk ?_ )
  refine XCall.givv (fate32 s) ?_
  refine And.intro rfl (And.intro (AVles.refl _) ?_)
  repeat (first | (refine Sq.nx ?_; try dsimp only [St.put, rn, rns, rid, rnH, rnB, dead, AV.cells, setAt, enumEnv, List.length_nil, List.length_cons, List.getElem?_nil, List.getElem?_cons_zero, List.getElem?_cons_succ, Nat.reduceAdd, Nat.reduceSub, Nat.add_zero]) | refine Bq.nx ?_ | refine Bq.hit rfl ?_ | refine Bq.miss rfl ?_ | refine Sq.ex ?_ | refine Sq.rt ?_ | refine Bq.rt ?_ | refine Lq.ex ?_ | refine Lq.rt ?_ | with_reducible refine seq.mk ?_ | with_reducible refine blk.mk ?_ )
  refine brk.mk (fun h4 => ?_) (fun h4 => ?_)
  · rw [fateR_eq s 4 (by decide) (by decide)] at h4
    repeat (first | (refine Sq.nx ?_; try dsimp only [St.put, rn, rns, rid, rnH, rnB, dead, AV.cells, setAt, enumEnv, List.length_nil, List.length_cons, List.getElem?_nil, List.getElem?_cons_zero, List.getElem?_cons_succ, Nat.reduceAdd, Nat.reduceSub, Nat.add_zero]) | refine Bq.nx ?_ | refine Bq.hit rfl ?_ | refine Bq.miss rfl ?_ | refine Sq.ex ?_ | refine Sq.rt ?_ | refine Bq.rt ?_ | refine Lq.ex ?_ | refine Lq.rt ?_ | with_reducible refine seq.mk ?_ | with_reducible refine blk.mk ?_ )
    refine Rq.rt ?_
    refine And.intro rfl ?_
    unfold namesOf
    rw [if_neg (fun h => h hc0), if_pos (eq_of_beq h4)]
    exact AVle.tup (AVles.cons (AVle.refl _) (AVles.cons (AVle.fs fun i j h => absurd h (Nat.not_lt_zero _)) (AVles.refl _)))
  rw [fateR_eq s 4 (by decide) (by decide)] at h4
  have n4 := beq_f h4
  repeat (first | (refine Sq.nx ?_; try dsimp only [St.put, rn, rns, rid, rnH, rnB, dead, AV.cells, setAt, enumEnv, List.length_nil, List.length_cons, List.getElem?_nil, List.getElem?_cons_zero, List.getElem?_cons_succ, Nat.reduceAdd, Nat.reduceSub, Nat.add_zero]) | refine Bq.nx ?_ | refine Bq.hit rfl ?_ | refine Bq.miss rfl ?_ | refine Sq.ex ?_ | refine Sq.rt ?_ | refine Bq.rt ?_ | refine Lq.ex ?_ | refine Lq.rt ?_ | with_reducible refine seq.mk ?_ | with_reducible refine blk.mk ?_ )
  refine lp.mk (fun σ => ∃ (i : Nat) (ns : List ByteArray), i ≤ s.objs.length ∧ ns = namesR (fateR s) front (s.objs.take i) ∧
    σ = ⟨[(1, .s front), (2, .p 0 0), (4, .p 1 0), (7, .sl 3 1 0 ns.length), (9, .i .i64 (fateR s)), (31, .i .i64 (s.objs.length : Int)), (32, .i .i64 (i : Int))],
      [(0, .lit [oAV s.objs, fAV s.fates.tail]), (1, .lit [.nils, .nils]), (3, .rows ns.length 1 (cellN ns))], 4⟩) (fun σ => (s.objs.length - num 32 σ).toNat) ?_ ?_
  · refine ⟨_, Le.trans (Le.lev (t := 7) rfl (Lev.sa (cell := cellN []) rfl BlkLe.none)) (Le.mk ?_ ?_ rfl rfl), 0, [], Nat.zero_le _, rfl, rfl⟩
    · exact ⟨rfl, rfl, rfl, rfl, rfl, rfl, rfl, trivial⟩
    · exact ⟨rfl, rfl, BlkLe.refl _ rfl, trivial⟩
  rintro σ' ⟨i, ns, hi, hns, rfl⟩
  have hbig := hl.1
  repeat (first | (refine Sq.nx ?_; try dsimp only [St.put, rn, rns, rid, rnH, rnB, dead, AV.cells, setAt, enumEnv, List.length_nil, List.length_cons, List.getElem?_nil, List.getElem?_cons_zero, List.getElem?_cons_succ, Nat.reduceAdd, Nat.reduceSub, Nat.add_zero]) | refine Bq.nx ?_ | refine Bq.hit rfl ?_ | refine Bq.miss rfl ?_ | refine Sq.ex ?_ | refine Sq.rt ?_ | refine Bq.rt ?_ | refine Lq.ex ?_ | refine Lq.rt ?_ | with_reducible refine seq.mk ?_ | with_reducible refine blk.mk ?_ )
  refine brk.mk (fun hc => ?_) (fun hc => ?_)
  · have hlt : i < s.objs.length := by have := of_decide_eq_true hc; omega
    have hwrap : IntKind.i64.wrap ((i : Int) + 1) = ((i + 1 : Nat) : Int) := by rw [wrap_int (by omega) (by omega)]; omega
    have hnl : ns.length ≤ i := by rw [hns]; exact namesR_len i
    have cont : keepR (fateR s) front (s.objs.getD i ob0) = true → ns ++ [(s.objs.getD i ob0).name] = namesR (fateR s) front (s.objs.take (i + 1)) := fun hk => by
      rw [namesR_one hlt, ← hns, hk]
    have cont0 : keepR (fateR s) front (s.objs.getD i ob0) = false → ns = namesR (fateR s) front (s.objs.take (i + 1)) := fun hk => by
      rw [namesR_one hlt, ← hns, hk, List.append_nil]
    repeat (first | (refine Sq.nx ?_; try dsimp only [St.put, rn, rns, rid, rnH, rnB, dead, AV.cells, setAt, enumEnv, List.length_nil, List.length_cons, List.getElem?_nil, List.getElem?_cons_zero, List.getElem?_cons_succ, Nat.reduceAdd, Nat.reduceSub, Nat.add_zero]) | refine Bq.nx ?_ | refine Bq.hit rfl ?_ | refine Bq.miss rfl ?_ | refine Sq.ex ?_ | refine Sq.rt ?_ | refine Bq.rt ?_ | refine Lq.ex ?_ | refine Lq.rt ?_ | with_reducible refine seq.mk ?_ | with_reducible refine blk.mk ?_ )
    refine Exists.intro i ?_
    refine And.intro rfl ?_
    refine And.intro hlt ?_
    repeat (first | (refine Sq.nx ?_; try dsimp only [St.put, rn, rns, rid, rnH, rnB, dead, AV.cells, setAt, enumEnv, List.length_nil, List.length_cons, List.getElem?_nil, List.getElem?_cons_zero, List.getElem?_cons_succ, Nat.reduceAdd, Nat.reduceSub, Nat.add_zero]) | refine Bq.nx ?_ | refine Bq.hit rfl ?_ | refine Bq.miss rfl ?_ | refine Sq.ex ?_ | refine Sq.rt ?_ | refine Bq.rt ?_ | refine Lq.ex ?_ | refine Lq.rt ?_ | with_reducible refine seq.mk ?_ | with_reducible refine blk.mk ?_ )
    refine brk.mk (fun hp => ?_) (fun hp => ?_)
    · have hle : front.size ≤ (s.objs.getD i ob0).name.size := by have := of_decide_eq_true hp; omega
      refine Exists.intro front.size ?_
      refine And.intro rfl ?_
      refine And.intro hle ?_
      refine brk.mk (fun hq => ?_) (fun hq => ?_)
      · have hpre : pre (s.objs.getD i ob0).name front = true := by unfold pre; rw [decide_eq_true hle]; exact hq
        refine brk.mk (fun h1 => ?_) (fun h1 => ?_)
        · refine brk.mk (fun h3 => ?_) (fun h3 => ?_)
          · repeat (first | (refine Sq.nx ?_; try dsimp only [St.put, rn, rns, rid, rnH, rnB, dead, AV.cells, setAt, enumEnv, List.length_nil, List.length_cons, List.getElem?_nil, List.getElem?_cons_zero, List.getElem?_cons_succ, Nat.reduceAdd, Nat.reduceSub, Nat.add_zero]) | refine Bq.nx ?_ | refine Bq.hit rfl ?_ | refine Bq.miss rfl ?_ | refine Sq.ex ?_ | refine Sq.rt ?_ | refine Bq.rt ?_ | refine Lq.ex ?_ | refine Lq.rt ?_ | with_reducible refine seq.mk ?_ | with_reducible refine blk.mk ?_ )
            refine And.intro (Nat.le_refl _) ?_
            refine And.intro (show (ns.length + 1) * 16 ≤ 140737488355328 by omega) ?_
            repeat (first | (refine Sq.nx ?_; try dsimp only [St.put, rn, rns, rid, rnH, rnB, dead, AV.cells, setAt, enumEnv, List.length_nil, List.length_cons, List.getElem?_nil, List.getElem?_cons_zero, List.getElem?_cons_succ, Nat.reduceAdd, Nat.reduceSub, Nat.add_zero]) | refine Bq.nx ?_ | refine Bq.hit rfl ?_ | refine Bq.miss rfl ?_ | refine Sq.ex ?_ | refine Sq.rt ?_ | refine Bq.rt ?_ | refine Lq.ex ?_ | refine Lq.rt ?_ | with_reducible refine seq.mk ?_ | with_reducible refine blk.mk ?_ )
            refine Lq.nx _ (Le.trans (Le.swap 3 6 (by decide) (by decide) (by decide : 3 < 7) (by decide : 6 < 7)) (Le.mk ?_ ?_ rfl rfl)) ⟨i + 1, ns ++ [(s.objs.getD i ob0).name], hlt, cont ?_, rfl⟩ ?_
            · exact ⟨rfl, rfl, rfl, congrArg (AV.sl 3 1 0) (by simp), rfl, rfl, congrArg (AV.i .i64) hwrap, trivial⟩
            · exact ⟨rfl, rfl, BlkLe.rows (by simp) (appN ns _), trivial⟩
            · unfold keepR; rw [hpre, h1, h3]; rfl
            · show (_ - ((i + 1 : Nat) : Int)).toNat < (_ - (i : Int)).toNat
              omega
          · repeat (first | (refine Sq.nx ?_; try dsimp only [St.put, rn, rns, rid, rnH, rnB, dead, AV.cells, setAt, enumEnv, List.length_nil, List.length_cons, List.getElem?_nil, List.getElem?_cons_zero, List.getElem?_cons_succ, Nat.reduceAdd, Nat.reduceSub, Nat.add_zero]) | refine Bq.nx ?_ | refine Bq.hit rfl ?_ | refine Bq.miss rfl ?_ | refine Sq.ex ?_ | refine Sq.rt ?_ | refine Bq.rt ?_ | refine Lq.ex ?_ | refine Lq.rt ?_ | with_reducible refine seq.mk ?_ | with_reducible refine blk.mk ?_ )
            refine brk.mk (fun hh => ?_) (fun hh => ?_)
            · repeat (first | (refine Sq.nx ?_; try dsimp only [St.put, rn, rns, rid, rnH, rnB, dead, AV.cells, setAt, enumEnv, List.length_nil, List.length_cons, List.getElem?_nil, List.getElem?_cons_zero, List.getElem?_cons_succ, Nat.reduceAdd, Nat.reduceSub, Nat.add_zero]) | refine Bq.nx ?_ | refine Bq.hit rfl ?_ | refine Bq.miss rfl ?_ | refine Sq.ex ?_ | refine Sq.rt ?_ | refine Bq.rt ?_ | refine Lq.ex ?_ | refine Lq.rt ?_ | with_reducible refine seq.mk ?_ | with_reducible refine blk.mk ?_ )
              refine And.intro (Nat.le_refl _) ?_
              refine And.intro (show (ns.length + 1) * 16 ≤ 140737488355328 by omega) ?_
              repeat (first | (refine Sq.nx ?_; try dsimp only [St.put, rn, rns, rid, rnH, rnB, dead, AV.cells, setAt, enumEnv, List.length_nil, List.length_cons, List.getElem?_nil, List.getElem?_cons_zero, List.getElem?_cons_succ, Nat.reduceAdd, Nat.reduceSub, Nat.add_zero]) | refine Bq.nx ?_ | refine Bq.hit rfl ?_ | refine Bq.miss rfl ?_ | refine Sq.ex ?_ | refine Sq.rt ?_ | refine Bq.rt ?_ | refine Lq.ex ?_ | refine Lq.rt ?_ | with_reducible refine seq.mk ?_ | with_reducible refine blk.mk ?_ )
              refine Lq.nx _ (Le.trans (Le.swap 3 6 (by decide) (by decide) (by decide : 3 < 7) (by decide : 6 < 7)) (Le.mk ?_ ?_ rfl rfl)) ⟨i + 1, ns ++ [(s.objs.getD i ob0).name], hlt, cont ?_, rfl⟩ ?_
              · exact ⟨rfl, rfl, rfl, congrArg (AV.sl 3 1 0) (by simp), rfl, rfl, congrArg (AV.i .i64) hwrap, trivial⟩
              · exact ⟨rfl, rfl, BlkLe.rows (by simp) (appN ns _), trivial⟩
              · unfold keepR; rw [hpre, h1, hh, Bool.or_true]; rfl
              · show (_ - ((i + 1 : Nat) : Int)).toNat < (_ - (i : Int)).toNat
                omega
            · repeat (first | (refine Sq.nx ?_; try dsimp only [St.put, rn, rns, rid, rnH, rnB, dead, AV.cells, setAt, enumEnv, List.length_nil, List.length_cons, List.getElem?_nil, List.getElem?_cons_zero, List.getElem?_cons_succ, Nat.reduceAdd, Nat.reduceSub, Nat.add_zero]) | refine Bq.nx ?_ | refine Bq.hit rfl ?_ | refine Bq.miss rfl ?_ | refine Sq.ex ?_ | refine Sq.rt ?_ | refine Bq.rt ?_ | refine Lq.ex ?_ | refine Lq.rt ?_ | with_reducible refine seq.mk ?_ | with_reducible refine blk.mk ?_ )
              refine Lq.nx _ (Le.mk ?_ ?_ rfl rfl) ⟨i + 1, ns, hlt, cont0 ?_, rfl⟩ ?_
              · exact ⟨rfl, rfl, rfl, rfl, rfl, rfl, congrArg (AV.i .i64) hwrap, trivial⟩
              · exact ⟨rfl, rfl, BlkLe.refl _ rfl, trivial⟩
              · unfold keepR; rw [hpre, h1, h3, hh]; rfl
              · show (_ - ((i + 1 : Nat) : Int)).toNat < (_ - (i : Int)).toNat
                omega
        · repeat (first | (refine Sq.nx ?_; try dsimp only [St.put, rn, rns, rid, rnH, rnB, dead, AV.cells, setAt, enumEnv, List.length_nil, List.length_cons, List.getElem?_nil, List.getElem?_cons_zero, List.getElem?_cons_succ, Nat.reduceAdd, Nat.reduceSub, Nat.add_zero]) | refine Bq.nx ?_ | refine Bq.hit rfl ?_ | refine Bq.miss rfl ?_ | refine Sq.ex ?_ | refine Sq.rt ?_ | refine Bq.rt ?_ | refine Lq.ex ?_ | refine Lq.rt ?_ | with_reducible refine seq.mk ?_ | with_reducible refine blk.mk ?_ )
          refine Lq.nx _ (Le.mk ?_ ?_ rfl rfl) ⟨i + 1, ns, hlt, cont0 ?_, rfl⟩ ?_
          · exact ⟨rfl, rfl, rfl, rfl, rfl, rfl, congrArg (AV.i .i64) hwrap, trivial⟩
          · exact ⟨rfl, rfl, BlkLe.refl _ rfl, trivial⟩
          · unfold keepR; rw [hpre, h1]; rfl
          · show (_ - ((i + 1 : Nat) : Int)).toNat < (_ - (i : Int)).toNat
            omega
      · have hpre : pre (s.objs.getD i ob0).name front = false := by unfold pre; rw [decide_eq_true hle]; exact hq
        repeat (first | (refine Sq.nx ?_; try dsimp only [St.put, rn, rns, rid, rnH, rnB, dead, AV.cells, setAt, enumEnv, List.length_nil, List.length_cons, List.getElem?_nil, List.getElem?_cons_zero, List.getElem?_cons_succ, Nat.reduceAdd, Nat.reduceSub, Nat.add_zero]) | refine Bq.nx ?_ | refine Bq.hit rfl ?_ | refine Bq.miss rfl ?_ | refine Sq.ex ?_ | refine Sq.rt ?_ | refine Bq.rt ?_ | refine Lq.ex ?_ | refine Lq.rt ?_ | with_reducible refine seq.mk ?_ | with_reducible refine blk.mk ?_ )
        refine Lq.nx _ (Le.mk ?_ ?_ rfl rfl) ⟨i + 1, ns, hlt, cont0 ?_, rfl⟩ ?_
        · exact ⟨rfl, rfl, rfl, rfl, rfl, rfl, congrArg (AV.i .i64) hwrap, trivial⟩
        · exact ⟨rfl, rfl, BlkLe.refl _ rfl, trivial⟩
        · unfold keepR; rw [hpre]; rfl
        · show (_ - ((i + 1 : Nat) : Int)).toNat < (_ - (i : Int)).toNat
          omega
    · have hle : ¬ front.size ≤ (s.objs.getD i ob0).name.size := by have := of_decide_eq_false hp; omega
      have hpre : pre (s.objs.getD i ob0).name front = false := by unfold pre; rw [decide_eq_false hle]; rfl
      repeat (first | (refine Sq.nx ?_; try dsimp only [St.put, rn, rns, rid, rnH, rnB, dead, AV.cells, setAt, enumEnv, List.length_nil, List.length_cons, List.getElem?_nil, List.getElem?_cons_zero, List.getElem?_cons_succ, Nat.reduceAdd, Nat.reduceSub, Nat.add_zero]) | refine Bq.nx ?_ | refine Bq.hit rfl ?_ | refine Bq.miss rfl ?_ | refine Sq.ex ?_ | refine Sq.rt ?_ | refine Bq.rt ?_ | refine Lq.ex ?_ | refine Lq.rt ?_ | with_reducible refine seq.mk ?_ | with_reducible refine blk.mk ?_ )
      refine Lq.nx _ (Le.mk ?_ ?_ rfl rfl) ⟨i + 1, ns, hlt, cont0 ?_, rfl⟩ ?_
      · exact ⟨rfl, rfl, rfl, rfl, rfl, rfl, congrArg (AV.i .i64) hwrap, trivial⟩
      · exact ⟨rfl, rfl, BlkLe.refl _ rfl, trivial⟩
      · unfold keepR; rw [hpre]; rfl
      · show (_ - ((i + 1 : Nat) : Int)).toNat < (_ - (i : Int)).toNat
        omega
  · have hin : i = s.objs.length := by have := of_decide_eq_false hc; omega
    subst hin
    repeat (first | (refine Sq.nx ?_; try dsimp only [St.put, rn, rns, rid, rnH, rnB, dead, AV.cells, setAt, enumEnv, List.length_nil, List.length_cons, List.getElem?_nil, List.getElem?_cons_zero, List.getElem?_cons_succ, Nat.reduceAdd, Nat.reduceSub, Nat.add_zero]) | refine Bq.nx ?_ | refine Bq.hit rfl ?_ | refine Bq.miss rfl ?_ | refine Sq.ex ?_ | refine Sq.rt ?_ | refine Bq.rt ?_ | refine Lq.ex ?_ | refine Lq.rt ?_ | with_reducible refine seq.mk ?_ | with_reducible refine blk.mk ?_ )
    refine Rq.rt ?_
    refine And.intro (Nat.le_of_eq (Nat.zero_add _)) ?_
    refine And.intro rfl ?_
    unfold namesOf
    rw [if_neg (fun h => h hc0), if_neg n4]
    rw [List.take_length] at hns
    have last : ∀ l, ns = l → AVle (.tup [.agg [oAV s.objs, fAV s.fates.tail], .fs ns.length 1 fun i j => cellN ns (0 + i) j, .i .i64 0]) (nAV (⟨s.objs, s.fates.tail⟩, l, 0)) := fun l e => by
      rw [e]
      exact AVle.tup (AVles.cons (AVle.refl _) (AVles.cons AVle.fs0 (AVles.refl _)))
    by_cases h1 : fateOf s = 1
    · rw [if_pos h1]
      exact last _ (hns.trans (namesR_1 s front h1 _))
    · rw [if_neg h1]
      exact last _ (hns.trans (namesR_n1 s front h1 _))
end Go.Proofs.T

namespace Go.Proofs.T
open Go Go.Hb

/-- Alike, for what a law asks: the very shelf. -/
theorem same18 (s : Sh) (hl : Small s) : Pure Try.prog 18 [sAV s, sAV s] (fun r => r = .b true) := by
  refine Pure.weak (Post := fun r => AVle r (.b true)) (Pure.of (XCall.bodyq is18 rfl ?_)) fun r h => ⟨_, rfl, h⟩
  unfold m18
  repeat (first | (refine Sq.nx ?_; try dsimp only [St.put, rn, rns, rid, rnH, rnB, dead, AV.cells, setAt, enumEnv, List.length_nil, List.length_cons, List.getElem?_nil, List.getElem?_cons_zero, List.getElem?_cons_succ, Nat.reduceAdd, Nat.reduceSub, Nat.add_zero]) | refine Bq.nx ?_ | refine Bq.hit rfl ?_ | refine Bq.miss rfl ?_ | refine Sq.ex ?_ | refine Sq.rt ?_ | refine Bq.rt ?_ | refine Lq.ex ?_ | refine Lq.rt ?_ | with_reducible refine seq.mk ?_ | with_reducible refine blk.mk ?_ )
  have ne : ∀ x : Int, (x != x) = true → False := fun x h => by simp at h
  refine brk.mk (fun h => (ne _ h).elim) (fun _ => ?_)
  repeat (first | (refine Sq.nx ?_; try dsimp only [St.put, rn, rns, rid, rnH, rnB, dead, AV.cells, setAt, enumEnv, List.length_nil, List.length_cons, List.getElem?_nil, List.getElem?_cons_zero, List.getElem?_cons_succ, Nat.reduceAdd, Nat.reduceSub, Nat.add_zero]) | refine Bq.nx ?_ | refine Bq.hit rfl ?_ | refine Bq.miss rfl ?_ | refine Sq.ex ?_ | refine Sq.rt ?_ | refine Bq.rt ?_ | refine Lq.ex ?_ | refine Lq.rt ?_ | with_reducible refine seq.mk ?_ | with_reducible refine blk.mk ?_ )
  refine brk.mk (fun h => (ne _ h).elim) (fun _ => ?_)
  repeat (first | (refine Sq.nx ?_; try dsimp only [St.put, rn, rns, rid, rnH, rnB, dead, AV.cells, setAt, enumEnv, List.length_nil, List.length_cons, List.getElem?_nil, List.getElem?_cons_zero, List.getElem?_cons_succ, Nat.reduceAdd, Nat.reduceSub, Nat.add_zero]) | refine Bq.nx ?_ | refine Bq.hit rfl ?_ | refine Bq.miss rfl ?_ | refine Sq.ex ?_ | refine Sq.rt ?_ | refine Bq.rt ?_ | refine Lq.ex ?_ | refine Lq.rt ?_ | with_reducible refine seq.mk ?_ | with_reducible refine blk.mk ?_ )
  refine lp.mk (fun σ => ∃ i : Nat, i ≤ s.objs.length ∧
    σ = ⟨[(2, .p 0 0), (3, .p 1 0), (25, .i .i64 (s.objs.length : Int)), (26, .i .i64 (i : Int))],
      [(0, .lit [oAV s.objs, fAV s.fates]), (1, .lit [oAV s.objs, fAV s.fates])], 2⟩) (fun σ => (s.objs.length - num 26 σ).toNat) ?_ ?_
  · refine ⟨_, Le.mk ?_ ?_ rfl rfl, 0, Nat.zero_le _, rfl⟩
    · exact ⟨rfl, rfl, rfl, rfl, trivial⟩
    · exact ⟨rfl, rfl, trivial⟩
  rintro σ' ⟨i, hi, rfl⟩
  have hb1 := hl.1
  have hb2 := hl.2
  repeat (first | (refine Sq.nx ?_; try dsimp only [St.put, rn, rns, rid, rnH, rnB, dead, AV.cells, setAt, enumEnv, List.length_nil, List.length_cons, List.getElem?_nil, List.getElem?_cons_zero, List.getElem?_cons_succ, Nat.reduceAdd, Nat.reduceSub, Nat.add_zero]) | refine Bq.nx ?_ | refine Bq.hit rfl ?_ | refine Bq.miss rfl ?_ | refine Sq.ex ?_ | refine Sq.rt ?_ | refine Bq.rt ?_ | refine Lq.ex ?_ | refine Lq.rt ?_ | with_reducible refine seq.mk ?_ | with_reducible refine blk.mk ?_ )
  refine brk.mk (fun hc => ?_) (fun hc => ?_)
  · have hlt : i < s.objs.length := by have := of_decide_eq_true hc; omega
    have hwrap : IntKind.i64.wrap ((i : Int) + 1) = ((i + 1 : Nat) : Int) := by rw [wrap_int (by omega) (by omega)]; omega
    repeat (first | (refine Sq.nx ?_; try dsimp only [St.put, rn, rns, rid, rnH, rnB, dead, AV.cells, setAt, enumEnv, List.length_nil, List.length_cons, List.getElem?_nil, List.getElem?_cons_zero, List.getElem?_cons_succ, Nat.reduceAdd, Nat.reduceSub, Nat.add_zero]) | refine Bq.nx ?_ | refine Bq.hit rfl ?_ | refine Bq.miss rfl ?_ | refine Sq.ex ?_ | refine Sq.rt ?_ | refine Bq.rt ?_ | refine Lq.ex ?_ | refine Lq.rt ?_ | with_reducible refine seq.mk ?_ | with_reducible refine blk.mk ?_ )
    refine Exists.intro i ?_
    refine And.intro rfl ?_
    refine And.intro hlt ?_
    refine Exists.intro i ?_
    refine And.intro rfl ?_
    refine And.intro hlt ?_
    repeat (first | (refine Sq.nx ?_; try dsimp only [St.put, rn, rns, rid, rnH, rnB, dead, AV.cells, setAt, enumEnv, List.length_nil, List.length_cons, List.getElem?_nil, List.getElem?_cons_zero, List.getElem?_cons_succ, Nat.reduceAdd, Nat.reduceSub, Nat.add_zero]) | refine Bq.nx ?_ | refine Bq.hit rfl ?_ | refine Bq.miss rfl ?_ | refine Sq.ex ?_ | refine Sq.rt ?_ | refine Bq.rt ?_ | refine Lq.ex ?_ | refine Lq.rt ?_ | with_reducible refine seq.mk ?_ | with_reducible refine blk.mk ?_ )
    refine brk.mk (fun h => ?_) (fun _ => ?_)
    · exfalso
      revert h
      simp [eq1, boolOf, AV.cv, CV.up, cellO]
    repeat (first | (refine Sq.nx ?_; try dsimp only [St.put, rn, rns, rid, rnH, rnB, dead, AV.cells, setAt, enumEnv, List.length_nil, List.length_cons, List.getElem?_nil, List.getElem?_cons_zero, List.getElem?_cons_succ, Nat.reduceAdd, Nat.reduceSub, Nat.add_zero]) | refine Bq.nx ?_ | refine Bq.hit rfl ?_ | refine Bq.miss rfl ?_ | refine Sq.ex ?_ | refine Sq.rt ?_ | refine Bq.rt ?_ | refine Lq.ex ?_ | refine Lq.rt ?_ | with_reducible refine seq.mk ?_ | with_reducible refine blk.mk ?_ )
    refine Lq.nx _ (Le.mk ?_ ?_ rfl rfl) ⟨i + 1, hlt, rfl⟩ ?_
    · exact ⟨rfl, rfl, rfl, congrArg (AV.i .i64) hwrap, trivial⟩
    · exact ⟨rfl, rfl, trivial⟩
    · show (_ - ((i + 1 : Nat) : Int)).toNat < (_ - (i : Int)).toNat
      omega
  repeat (first | (refine Sq.nx ?_; try dsimp only [St.put, rn, rns, rid, rnH, rnB, dead, AV.cells, setAt, enumEnv, List.length_nil, List.length_cons, List.getElem?_nil, List.getElem?_cons_zero, List.getElem?_cons_succ, Nat.reduceAdd, Nat.reduceSub, Nat.add_zero]) | refine Bq.nx ?_ | refine Bq.hit rfl ?_ | refine Bq.miss rfl ?_ | refine Sq.ex ?_ | refine Sq.rt ?_ | refine Bq.rt ?_ | refine Lq.ex ?_ | refine Lq.rt ?_ | with_reducible refine seq.mk ?_ | with_reducible refine blk.mk ?_ )
  refine lp.mk (fun σ => ∃ i : Nat, i ≤ s.fates.length ∧
    σ = ⟨[(2, .p 0 0), (3, .p 1 0), (43, .i .i64 (s.fates.length : Int)), (44, .i .i64 (i : Int))],
      [(0, .lit [oAV s.objs, fAV s.fates]), (1, .lit [oAV s.objs, fAV s.fates])], 2⟩) (fun σ => (s.fates.length - num 44 σ).toNat) ?_ ?_
  · refine ⟨_, Le.mk ?_ ?_ rfl rfl, 0, Nat.zero_le _, rfl⟩
    · exact ⟨rfl, rfl, rfl, rfl, trivial⟩
    · exact ⟨rfl, rfl, trivial⟩
  rintro σ' ⟨i, hi, rfl⟩
  repeat (first | (refine Sq.nx ?_; try dsimp only [St.put, rn, rns, rid, rnH, rnB, dead, AV.cells, setAt, enumEnv, List.length_nil, List.length_cons, List.getElem?_nil, List.getElem?_cons_zero, List.getElem?_cons_succ, Nat.reduceAdd, Nat.reduceSub, Nat.add_zero]) | refine Bq.nx ?_ | refine Bq.hit rfl ?_ | refine Bq.miss rfl ?_ | refine Sq.ex ?_ | refine Sq.rt ?_ | refine Bq.rt ?_ | refine Lq.ex ?_ | refine Lq.rt ?_ | with_reducible refine seq.mk ?_ | with_reducible refine blk.mk ?_ )
  refine brk.mk (fun hc => ?_) (fun hc => ?_)
  · have hlt : i < s.fates.length := by have := of_decide_eq_true hc; omega
    have hwrap : IntKind.i64.wrap ((i : Int) + 1) = ((i + 1 : Nat) : Int) := by rw [wrap_int (by omega) (by omega)]; omega
    repeat (first | (refine Sq.nx ?_; try dsimp only [St.put, rn, rns, rid, rnH, rnB, dead, AV.cells, setAt, enumEnv, List.length_nil, List.length_cons, List.getElem?_nil, List.getElem?_cons_zero, List.getElem?_cons_succ, Nat.reduceAdd, Nat.reduceSub, Nat.add_zero]) | refine Bq.nx ?_ | refine Bq.hit rfl ?_ | refine Bq.miss rfl ?_ | refine Sq.ex ?_ | refine Sq.rt ?_ | refine Bq.rt ?_ | refine Lq.ex ?_ | refine Lq.rt ?_ | with_reducible refine seq.mk ?_ | with_reducible refine blk.mk ?_ )
    refine Exists.intro i ?_
    refine And.intro rfl ?_
    refine And.intro hlt ?_
    refine Exists.intro i ?_
    refine And.intro rfl ?_
    refine And.intro hlt ?_
    repeat (first | (refine Sq.nx ?_; try dsimp only [St.put, rn, rns, rid, rnH, rnB, dead, AV.cells, setAt, enumEnv, List.length_nil, List.length_cons, List.getElem?_nil, List.getElem?_cons_zero, List.getElem?_cons_succ, Nat.reduceAdd, Nat.reduceSub, Nat.add_zero]) | refine Bq.nx ?_ | refine Bq.hit rfl ?_ | refine Bq.miss rfl ?_ | refine Sq.ex ?_ | refine Sq.rt ?_ | refine Bq.rt ?_ | refine Lq.ex ?_ | refine Lq.rt ?_ | with_reducible refine seq.mk ?_ | with_reducible refine blk.mk ?_ )
    refine brk.mk (fun h => (ne _ h).elim) (fun _ => ?_)
    repeat (first | (refine Sq.nx ?_; try dsimp only [St.put, rn, rns, rid, rnH, rnB, dead, AV.cells, setAt, enumEnv, List.length_nil, List.length_cons, List.getElem?_nil, List.getElem?_cons_zero, List.getElem?_cons_succ, Nat.reduceAdd, Nat.reduceSub, Nat.add_zero]) | refine Bq.nx ?_ | refine Bq.hit rfl ?_ | refine Bq.miss rfl ?_ | refine Sq.ex ?_ | refine Sq.rt ?_ | refine Bq.rt ?_ | refine Lq.ex ?_ | refine Lq.rt ?_ | with_reducible refine seq.mk ?_ | with_reducible refine blk.mk ?_ )
    refine Lq.nx _ (Le.mk ?_ ?_ rfl rfl) ⟨i + 1, hlt, rfl⟩ ?_
    · exact ⟨rfl, rfl, rfl, congrArg (AV.i .i64) hwrap, trivial⟩
    · exact ⟨rfl, rfl, trivial⟩
    · show (_ - ((i + 1 : Nat) : Int)).toNat < (_ - (i : Int)).toNat
      omega
  repeat (first | (refine Sq.nx ?_; try dsimp only [St.put, rn, rns, rid, rnH, rnB, dead, AV.cells, setAt, enumEnv, List.length_nil, List.length_cons, List.getElem?_nil, List.getElem?_cons_zero, List.getElem?_cons_succ, Nat.reduceAdd, Nat.reduceSub, Nat.add_zero]) | refine Bq.nx ?_ | refine Bq.hit rfl ?_ | refine Bq.miss rfl ?_ | refine Sq.ex ?_ | refine Sq.rt ?_ | refine Bq.rt ?_ | refine Lq.ex ?_ | refine Lq.rt ?_ | with_reducible refine seq.mk ?_ | with_reducible refine blk.mk ?_ )
  refine Rq.rt ?_
  exact And.intro rfl AVle.tt

theorem great8 (s : Sh) : Pure Try.prog 8 [sAV s] (fun r => ∃ e : Int, r = .i .i64 e ∧ (¬ 0 < e → (s.objs.length ≤ 30 ∧ s.fates.length ≤ 100) ∧ ∀ x ∈ s.objs, x.name.size ≤ 200 ∧ x.data.size ≤ 500)) := by
  refine Pure.of (XCall.bodyq is8 rfl ?_)
  unfold m8
  have yes : ∃ e : Int, AV.i IntKind.i64 1 = .i .i64 e ∧ (¬ 0 < e → (s.objs.length ≤ 30 ∧ s.fates.length ≤ 100) ∧ ∀ x ∈ s.objs, x.name.size ≤ 200 ∧ x.data.size ≤ 500) := ⟨1, rfl, fun h => absurd (by decide) h⟩
  repeat (first | (refine Sq.nx ?_; try dsimp only [St.put, rn, rns, rid, rnH, rnB, dead, AV.cells, setAt, enumEnv, List.length_nil, List.length_cons, List.getElem?_nil, List.getElem?_cons_zero, List.getElem?_cons_succ, Nat.reduceAdd, Nat.reduceSub, Nat.add_zero]) | refine Bq.nx ?_ | refine Bq.hit rfl ?_ | refine Bq.miss rfl ?_ | refine Sq.ex ?_ | refine Sq.rt ?_ | refine Bq.rt ?_ | refine Lq.ex ?_ | refine Lq.rt ?_ | with_reducible refine seq.mk ?_ | with_reducible refine blk.mk ?_ )
  refine brk.mk (fun h => ?_) (fun h1 => ?_)
  · repeat (first | (refine Sq.nx ?_; try dsimp only [St.put, rn, rns, rid, rnH, rnB, dead, AV.cells, setAt, enumEnv, List.length_nil, List.length_cons, List.getElem?_nil, List.getElem?_cons_zero, List.getElem?_cons_succ, Nat.reduceAdd, Nat.reduceSub, Nat.add_zero]) | refine Bq.nx ?_ | refine Bq.hit rfl ?_ | refine Bq.miss rfl ?_ | refine Sq.ex ?_ | refine Sq.rt ?_ | refine Bq.rt ?_ | refine Lq.ex ?_ | refine Lq.rt ?_ | with_reducible refine seq.mk ?_ | with_reducible refine blk.mk ?_ )
    refine Rq.rt ?_
    exact And.intro rfl yes
  repeat (first | (refine Sq.nx ?_; try dsimp only [St.put, rn, rns, rid, rnH, rnB, dead, AV.cells, setAt, enumEnv, List.length_nil, List.length_cons, List.getElem?_nil, List.getElem?_cons_zero, List.getElem?_cons_succ, Nat.reduceAdd, Nat.reduceSub, Nat.add_zero]) | refine Bq.nx ?_ | refine Bq.hit rfl ?_ | refine Bq.miss rfl ?_ | refine Sq.ex ?_ | refine Sq.rt ?_ | refine Bq.rt ?_ | refine Lq.ex ?_ | refine Lq.rt ?_ | with_reducible refine seq.mk ?_ | with_reducible refine blk.mk ?_ )
  refine brk.mk (fun h => ?_) (fun h2 => ?_)
  · repeat (first | (refine Sq.nx ?_; try dsimp only [St.put, rn, rns, rid, rnH, rnB, dead, AV.cells, setAt, enumEnv, List.length_nil, List.length_cons, List.getElem?_nil, List.getElem?_cons_zero, List.getElem?_cons_succ, Nat.reduceAdd, Nat.reduceSub, Nat.add_zero]) | refine Bq.nx ?_ | refine Bq.hit rfl ?_ | refine Bq.miss rfl ?_ | refine Sq.ex ?_ | refine Sq.rt ?_ | refine Bq.rt ?_ | refine Lq.ex ?_ | refine Lq.rt ?_ | with_reducible refine seq.mk ?_ | with_reducible refine blk.mk ?_ )
    refine Rq.rt ?_
    exact And.intro rfl yes
  have g1 := of_decide_eq_false h1
  have g2 := of_decide_eq_false h2
  repeat (first | (refine Sq.nx ?_; try dsimp only [St.put, rn, rns, rid, rnH, rnB, dead, AV.cells, setAt, enumEnv, List.length_nil, List.length_cons, List.getElem?_nil, List.getElem?_cons_zero, List.getElem?_cons_succ, Nat.reduceAdd, Nat.reduceSub, Nat.add_zero]) | refine Bq.nx ?_ | refine Bq.hit rfl ?_ | refine Bq.miss rfl ?_ | refine Sq.ex ?_ | refine Sq.rt ?_ | refine Bq.rt ?_ | refine Lq.ex ?_ | refine Lq.rt ?_ | with_reducible refine seq.mk ?_ | with_reducible refine blk.mk ?_ )
  refine lp.mk (fun σ => ∃ i : Nat, i ≤ s.objs.length ∧ (∀ k, k < i → (s.objs.getD k ob0).name.size ≤ 200 ∧ (s.objs.getD k ob0).data.size ≤ 500) ∧
    σ = ⟨[(1, .p 0 0), (16, .i .i64 (s.objs.length : Int)), (17, .i .i64 (i : Int))],
      [(0, .lit [oAV s.objs, fAV s.fates])], 1⟩) (fun σ => (s.objs.length - num 17 σ).toNat) ?_ ?_
  · refine ⟨_, Le.mk ?_ ?_ rfl rfl, 0, Nat.zero_le _, fun k h => absurd h (Nat.not_lt_zero _), rfl⟩
    · exact ⟨rfl, rfl, rfl, trivial⟩
    · exact ⟨rfl, trivial⟩
  rintro σ' ⟨i, hi, hk, rfl⟩
  repeat (first | (refine Sq.nx ?_; try dsimp only [St.put, rn, rns, rid, rnH, rnB, dead, AV.cells, setAt, enumEnv, List.length_nil, List.length_cons, List.getElem?_nil, List.getElem?_cons_zero, List.getElem?_cons_succ, Nat.reduceAdd, Nat.reduceSub, Nat.add_zero]) | refine Bq.nx ?_ | refine Bq.hit rfl ?_ | refine Bq.miss rfl ?_ | refine Sq.ex ?_ | refine Sq.rt ?_ | refine Bq.rt ?_ | refine Lq.ex ?_ | refine Lq.rt ?_ | with_reducible refine seq.mk ?_ | with_reducible refine blk.mk ?_ )
  refine brk.mk (fun hc => ?_) (fun hc => ?_)
  · have hlt : i < s.objs.length := by have := of_decide_eq_true hc; omega
    have hwrap : IntKind.i64.wrap ((i : Int) + 1) = ((i + 1 : Nat) : Int) := by rw [wrap_int (by omega) (by omega)]; omega
    repeat (first | (refine Sq.nx ?_; try dsimp only [St.put, rn, rns, rid, rnH, rnB, dead, AV.cells, setAt, enumEnv, List.length_nil, List.length_cons, List.getElem?_nil, List.getElem?_cons_zero, List.getElem?_cons_succ, Nat.reduceAdd, Nat.reduceSub, Nat.add_zero]) | refine Bq.nx ?_ | refine Bq.hit rfl ?_ | refine Bq.miss rfl ?_ | refine Sq.ex ?_ | refine Sq.rt ?_ | refine Bq.rt ?_ | refine Lq.ex ?_ | refine Lq.rt ?_ | with_reducible refine seq.mk ?_ | with_reducible refine blk.mk ?_ )
    refine Exists.intro i ?_
    refine And.intro rfl ?_
    refine And.intro hlt ?_
    refine brk.mk (fun h => ?_) (fun h1 => ?_)
    · repeat (first | (refine Sq.nx ?_; try dsimp only [St.put, rn, rns, rid, rnH, rnB, dead, AV.cells, setAt, enumEnv, List.length_nil, List.length_cons, List.getElem?_nil, List.getElem?_cons_zero, List.getElem?_cons_succ, Nat.reduceAdd, Nat.reduceSub, Nat.add_zero]) | refine Bq.nx ?_ | refine Bq.hit rfl ?_ | refine Bq.miss rfl ?_ | refine Sq.ex ?_ | refine Sq.rt ?_ | refine Bq.rt ?_ | refine Lq.ex ?_ | refine Lq.rt ?_ | with_reducible refine seq.mk ?_ | with_reducible refine blk.mk ?_ )
      refine Rq.rt ?_
      exact And.intro rfl yes
    refine Exists.intro i ?_
    refine And.intro rfl ?_
    refine And.intro hlt ?_
    refine brk.mk (fun h => ?_) (fun h2 => ?_)
    · repeat (first | (refine Sq.nx ?_; try dsimp only [St.put, rn, rns, rid, rnH, rnB, dead, AV.cells, setAt, enumEnv, List.length_nil, List.length_cons, List.getElem?_nil, List.getElem?_cons_zero, List.getElem?_cons_succ, Nat.reduceAdd, Nat.reduceSub, Nat.add_zero]) | refine Bq.nx ?_ | refine Bq.hit rfl ?_ | refine Bq.miss rfl ?_ | refine Sq.ex ?_ | refine Sq.rt ?_ | refine Bq.rt ?_ | refine Lq.ex ?_ | refine Lq.rt ?_ | with_reducible refine seq.mk ?_ | with_reducible refine blk.mk ?_ )
      refine Rq.rt ?_
      exact And.intro rfl yes
    refine Exists.intro i ?_
    refine And.intro rfl ?_
    refine And.intro hlt ?_
    repeat (first | (refine Sq.nx ?_; try dsimp only [St.put, rn, rns, rid, rnH, rnB, dead, AV.cells, setAt, enumEnv, List.length_nil, List.length_cons, List.getElem?_nil, List.getElem?_cons_zero, List.getElem?_cons_succ, Nat.reduceAdd, Nat.reduceSub, Nat.add_zero]) | refine Bq.nx ?_ | refine Bq.hit rfl ?_ | refine Bq.miss rfl ?_ | refine Sq.ex ?_ | refine Sq.rt ?_ | refine Bq.rt ?_ | refine Lq.ex ?_ | refine Lq.rt ?_ | with_reducible refine seq.mk ?_ | with_reducible refine blk.mk ?_ )
    refine brk.mk (fun h => ?_) (fun h3 => ?_)
    · repeat (first | (refine Sq.nx ?_; try dsimp only [St.put, rn, rns, rid, rnH, rnB, dead, AV.cells, setAt, enumEnv, List.length_nil, List.length_cons, List.getElem?_nil, List.getElem?_cons_zero, List.getElem?_cons_succ, Nat.reduceAdd, Nat.reduceSub, Nat.add_zero]) | refine Bq.nx ?_ | refine Bq.hit rfl ?_ | refine Bq.miss rfl ?_ | refine Sq.ex ?_ | refine Sq.rt ?_ | refine Bq.rt ?_ | refine Lq.ex ?_ | refine Lq.rt ?_ | with_reducible refine seq.mk ?_ | with_reducible refine blk.mk ?_ )
      refine Rq.rt ?_
      exact And.intro rfl yes
    repeat (first | (refine Sq.nx ?_; try dsimp only [St.put, rn, rns, rid, rnH, rnB, dead, AV.cells, setAt, enumEnv, List.length_nil, List.length_cons, List.getElem?_nil, List.getElem?_cons_zero, List.getElem?_cons_succ, Nat.reduceAdd, Nat.reduceSub, Nat.add_zero]) | refine Bq.nx ?_ | refine Bq.hit rfl ?_ | refine Bq.miss rfl ?_ | refine Sq.ex ?_ | refine Sq.rt ?_ | refine Bq.rt ?_ | refine Lq.ex ?_ | refine Lq.rt ?_ | with_reducible refine seq.mk ?_ | with_reducible refine blk.mk ?_ )
    refine Lq.nx _ (Le.mk ?_ ?_ rfl rfl) ⟨i + 1, hlt, fun k hk' => ?_, rfl⟩ ?_
    · exact ⟨rfl, rfl, congrArg (AV.i .i64) hwrap, trivial⟩
    · exact ⟨rfl, trivial⟩
    · rcases Nat.lt_or_ge k i with h | h
      · exact hk k h
      · obtain rfl : k = i := by omega
        have := of_decide_eq_false h1
        have := of_decide_eq_false h2
        omega
    · show (_ - ((i + 1 : Nat) : Int)).toNat < (_ - (i : Int)).toNat
      omega
  · have hin : i = s.objs.length := by have := of_decide_eq_false hc; omega
    subst hin
    repeat (first | (refine Sq.nx ?_; try dsimp only [St.put, rn, rns, rid, rnH, rnB, dead, AV.cells, setAt, enumEnv, List.length_nil, List.length_cons, List.getElem?_nil, List.getElem?_cons_zero, List.getElem?_cons_succ, Nat.reduceAdd, Nat.reduceSub, Nat.add_zero]) | refine Bq.nx ?_ | refine Bq.hit rfl ?_ | refine Bq.miss rfl ?_ | refine Sq.ex ?_ | refine Sq.rt ?_ | refine Bq.rt ?_ | refine Lq.ex ?_ | refine Lq.rt ?_ | with_reducible refine seq.mk ?_ | with_reducible refine blk.mk ?_ )
    refine Rq.rt ?_
    refine And.intro rfl ⟨0, rfl, fun _ => ⟨⟨by omega, by omega⟩, fun x hx => ?_⟩⟩
    obtain ⟨k, hk', rfl⟩ := List.mem_iff_getElem.1 hx
    have := hk k hk'
    rwa [getD_of hk'] at this
end Go.Proofs.T

namespace Go.Proofs.T
open Go Go.Hb

structure Ac where
  kind : Int
  name : ByteArray
  data : ByteArray
def ac0 : Ac := ⟨0, ⟨#[]⟩, ⟨#[]⟩⟩
def cellA (l : List Ac) (i j : Nat) : CV := match j with
  | 0 => .i .i64 (l.getD i ac0).kind
  | 1 => .s (l.getD i ac0).name
  | _ => .s (l.getD i ac0).data
def aAV (l : List Ac) : AV := .fs l.length 3 (cellA l)
theorem getA {l : List Ac} {k : Nat} (h : k < l.length) : l.getD k ac0 = l[k] := by
  rw [List.getD_eq_getElem?_getD, List.getElem?_eq_getElem h]; rfl
def FitA (l : List Ac) : Prop := l.length ≤ 20 ∧ ∀ x ∈ l, x.name.size ≤ 200 ∧ x.data.size ≤ 500

theorem great19 (l : List Ac) (hl : l.length ≤ 9223372036854775807) : Pure Try.prog 19 [aAV l] (fun r => ∃ b : Bool, r = .b b ∧ (b = false → FitA l)) := by
  refine Pure.weak (Post := fun r => ∃ b : Bool, AVle r (.b b) ∧ (b = false → FitA l)) (Pure.of (XCall.bodyq is19 rfl ?_)) fun r ⟨b, h, h2⟩ => ⟨_, ⟨b, rfl, h2⟩, h⟩
  unfold m19
  have yes : ∃ b : Bool, AVle AV.tt (.b b) ∧ (b = false → FitA l) := ⟨true, AVle.tt, fun h => by cases h⟩
  repeat (first | (refine Sq.nx ?_; try dsimp only [St.put, rn, rns, rid, rnH, rnB, dead, AV.cells, setAt, enumEnv, List.length_nil, List.length_cons, List.getElem?_nil, List.getElem?_cons_zero, List.getElem?_cons_succ, Nat.reduceAdd, Nat.reduceSub, Nat.add_zero]) | refine Bq.nx ?_ | refine Bq.hit rfl ?_ | refine Bq.miss rfl ?_ | refine Sq.ex ?_ | refine Sq.rt ?_ | refine Bq.rt ?_ | refine Lq.ex ?_ | refine Lq.rt ?_ | with_reducible refine seq.mk ?_ | with_reducible refine blk.mk ?_ )
  refine lp.mk (fun σ => ∃ i : Nat, i ≤ l.length ∧ (∀ k, k < i → (l.getD k ac0).name.size ≤ 200 ∧ (l.getD k ac0).data.size ≤ 500) ∧
    σ = ⟨[(0, aAV l), (3, .i .i64 (i : Int))], [], 0⟩) (fun σ => (l.length - num 3 σ).toNat) ?_ ?_
  · refine ⟨_, Le.mk ?_ ?_ rfl rfl, 0, Nat.zero_le _, fun k h => absurd h (Nat.not_lt_zero _), rfl⟩
    · exact ⟨rfl, rfl, trivial⟩
    · exact trivial
  rintro σ' ⟨i, hi, hk, rfl⟩
  repeat (first | (refine Sq.nx ?_; try dsimp only [St.put, rn, rns, rid, rnH, rnB, dead, AV.cells, setAt, enumEnv, List.length_nil, List.length_cons, List.getElem?_nil, List.getElem?_cons_zero, List.getElem?_cons_succ, Nat.reduceAdd, Nat.reduceSub, Nat.add_zero]) | refine Bq.nx ?_ | refine Bq.hit rfl ?_ | refine Bq.miss rfl ?_ | refine Sq.ex ?_ | refine Sq.rt ?_ | refine Bq.rt ?_ | refine Lq.ex ?_ | refine Lq.rt ?_ | with_reducible refine seq.mk ?_ | with_reducible refine blk.mk ?_ )
  refine brk.mk (fun hc => ?_) (fun hc => ?_)
  · have hlt : i < l.length := by have := of_decide_eq_true hc; omega
    have hwrap : IntKind.i64.wrap ((i : Int) + 1) = ((i + 1 : Nat) : Int) := by rw [wrap_int (by omega) (by omega)]; omega
    repeat (first | (refine Sq.nx ?_; try dsimp only [St.put, rn, rns, rid, rnH, rnB, dead, AV.cells, setAt, enumEnv, List.length_nil, List.length_cons, List.getElem?_nil, List.getElem?_cons_zero, List.getElem?_cons_succ, Nat.reduceAdd, Nat.reduceSub, Nat.add_zero]) | refine Bq.nx ?_ | refine Bq.hit rfl ?_ | refine Bq.miss rfl ?_ | refine Sq.ex ?_ | refine Sq.rt ?_ | refine Bq.rt ?_ | refine Lq.ex ?_ | refine Lq.rt ?_ | with_reducible refine seq.mk ?_ | with_reducible refine blk.mk ?_ )
    refine Exists.intro i ?_
    refine And.intro rfl ?_
    refine And.intro hlt ?_
    refine brk.mk (fun h => ?_) (fun h1 => ?_)
    · repeat (first | (refine Sq.nx ?_; try dsimp only [St.put, rn, rns, rid, rnH, rnB, dead, AV.cells, setAt, enumEnv, List.length_nil, List.length_cons, List.getElem?_nil, List.getElem?_cons_zero, List.getElem?_cons_succ, Nat.reduceAdd, Nat.reduceSub, Nat.add_zero]) | refine Bq.nx ?_ | refine Bq.hit rfl ?_ | refine Bq.miss rfl ?_ | refine Sq.ex ?_ | refine Sq.rt ?_ | refine Bq.rt ?_ | refine Lq.ex ?_ | refine Lq.rt ?_ | with_reducible refine seq.mk ?_ | with_reducible refine blk.mk ?_ )
      refine Rq.rt ?_
      exact And.intro rfl yes
    refine Exists.intro i ?_
    refine And.intro rfl ?_
    refine And.intro hlt ?_
    repeat (first | (refine Sq.nx ?_; try dsimp only [St.put, rn, rns, rid, rnH, rnB, dead, AV.cells, setAt, enumEnv, List.length_nil, List.length_cons, List.getElem?_nil, List.getElem?_cons_zero, List.getElem?_cons_succ, Nat.reduceAdd, Nat.reduceSub, Nat.add_zero]) | refine Bq.nx ?_ | refine Bq.hit rfl ?_ | refine Bq.miss rfl ?_ | refine Sq.ex ?_ | refine Sq.rt ?_ | refine Bq.rt ?_ | refine Lq.ex ?_ | refine Lq.rt ?_ | with_reducible refine seq.mk ?_ | with_reducible refine blk.mk ?_ )
    refine brk.mk (fun h => ?_) (fun h2 => ?_)
    · repeat (first | (refine Sq.nx ?_; try dsimp only [St.put, rn, rns, rid, rnH, rnB, dead, AV.cells, setAt, enumEnv, List.length_nil, List.length_cons, List.getElem?_nil, List.getElem?_cons_zero, List.getElem?_cons_succ, Nat.reduceAdd, Nat.reduceSub, Nat.add_zero]) | refine Bq.nx ?_ | refine Bq.hit rfl ?_ | refine Bq.miss rfl ?_ | refine Sq.ex ?_ | refine Sq.rt ?_ | refine Bq.rt ?_ | refine Lq.ex ?_ | refine Lq.rt ?_ | with_reducible refine seq.mk ?_ | with_reducible refine blk.mk ?_ )
      refine Rq.rt ?_
      exact And.intro rfl yes
    repeat (first | (refine Sq.nx ?_; try dsimp only [St.put, rn, rns, rid, rnH, rnB, dead, AV.cells, setAt, enumEnv, List.length_nil, List.length_cons, List.getElem?_nil, List.getElem?_cons_zero, List.getElem?_cons_succ, Nat.reduceAdd, Nat.reduceSub, Nat.add_zero]) | refine Bq.nx ?_ | refine Bq.hit rfl ?_ | refine Bq.miss rfl ?_ | refine Sq.ex ?_ | refine Sq.rt ?_ | refine Bq.rt ?_ | refine Lq.ex ?_ | refine Lq.rt ?_ | with_reducible refine seq.mk ?_ | with_reducible refine blk.mk ?_ )
    refine Lq.nx _ (Le.mk ?_ ?_ rfl rfl) ⟨i + 1, hlt, fun k hk' => ?_, rfl⟩ ?_
    · exact ⟨rfl, congrArg (AV.i .i64) hwrap, trivial⟩
    · exact trivial
    · rcases Nat.lt_or_ge k i with h | h
      · exact hk k h
      · obtain rfl : k = i := by omega
        have := of_decide_eq_false h1
        have := of_decide_eq_false h2
        omega
    · show (_ - ((i + 1 : Nat) : Int)).toNat < (_ - (i : Int)).toNat
      omega
  · have hin : i = l.length := by have := of_decide_eq_false hc; omega
    subst hin
    repeat (first | (refine Sq.nx ?_; try dsimp only [St.put, rn, rns, rid, rnH, rnB, dead, AV.cells, setAt, enumEnv, List.length_nil, List.length_cons, List.getElem?_nil, List.getElem?_cons_zero, List.getElem?_cons_succ, Nat.reduceAdd, Nat.reduceSub, Nat.add_zero]) | refine Bq.nx ?_ | refine Bq.hit rfl ?_ | refine Bq.miss rfl ?_ | refine Sq.ex ?_ | refine Sq.rt ?_ | refine Bq.rt ?_ | refine Lq.ex ?_ | refine Lq.rt ?_ | with_reducible refine seq.mk ?_ | with_reducible refine blk.mk ?_ )
    refine Rq.rt ?_
    refine And.intro rfl ⟨_, AVle.refl _, fun h => ⟨?_, fun x hx => ?_⟩⟩
    · have := of_decide_eq_false h
      omega
    · obtain ⟨k, hk', rfl⟩ := List.mem_iff_getElem.1 hx
      have := hk k hk'
      rwa [getA hk'] at this

theorem honest15 (s : Sh) : Pure Try.prog 15 [sAV s] (fun r => r = sAV ⟨s.objs, []⟩) := by
  refine Pure.weak (Post := fun r => AVle r (sAV ⟨s.objs, []⟩)) (Pure.of (XCall.bodyq is15 rfl ?_)) fun r h => ⟨_, rfl, h⟩
  unfold m15
  repeat (first | (refine Sq.nx ?_; try dsimp only [St.put, rn, rns, rid, rnH, rnB, dead, AV.cells, setAt, enumEnv, List.length_nil, List.length_cons, List.getElem?_nil, List.getElem?_cons_zero, List.getElem?_cons_succ, Nat.reduceAdd, Nat.reduceSub, Nat.add_zero]) | refine Bq.nx ?_ | refine Bq.hit rfl ?_ | refine Bq.miss rfl ?_ | refine Sq.ex ?_ | refine Sq.rt ?_ | refine Bq.rt ?_ | refine Lq.ex ?_ | refine Lq.rt ?_ | with_reducible refine seq.mk ?_ | with_reducible refine blk.mk ?_ )
  refine Rq.rt ?_
  refine And.intro rfl ?_
  exact AVle.agg (AVles.cons (AVle.refl _) (AVles.cons (AVle.fs fun i j h => absurd h (Nat.not_lt_zero _)) AVles.nil))

def bX : ByteArray := ⟨#[120]⟩
def bA : ByteArray := ⟨#[97]⟩
def bB : ByteArray := ⟨#[98]⟩
theorem awake1 : put ⟨[], [0, 0, 3]⟩ bX bA = (⟨[⟨bX, bA, ⟨#[]⟩, false⟩], [0, 3]⟩, 0) := by kernel_rfl
theorem awake2 : put ⟨[⟨bX, bA, ⟨#[]⟩, false⟩], [0, 3]⟩ bX bB = (⟨[⟨bX, bB, bA, true⟩], [3]⟩, 0) := by kernel_rfl
theorem awake3 : get ⟨[⟨bX, bB, bA, true⟩], [3]⟩ bX = (⟨[⟨bX, bB, bA, true⟩], []⟩, bA, 0) := by kernel_rfl
theorem awake11 : Pure Try.prog 11 [] (fun r => r = .b true) := by
  refine Pure.weak (Post := fun r => AVle r (.b true)) (Pure.of (XCall.bodyq is11 rfl ?_)) fun r h => ⟨_, rfl, h⟩
  unfold m11
  repeat (first | (refine Sq.nx ?_; try dsimp only [St.put, rn, rns, rid, rnH, rnB, dead, AV.cells, setAt, enumEnv, List.length_nil, List.length_cons, List.getElem?_nil, List.getElem?_cons_zero, List.getElem?_cons_succ, Nat.reduceAdd, Nat.reduceSub, Nat.add_zero]) | refine Bq.nx ?_ | refine Bq.hit rfl ?_ | refine Bq.miss rfl ?_ | refine Sq.ex ?_ | refine Sq.rt ?_ | refine Bq.rt ?_ | refine Lq.ex ?_ | refine Lq.rt ?_ | with_reducible refine seq.mk ?_ | with_reducible refine blk.mk ?_ )
  have h1 := put13 ⟨[], [0, 0, 3]⟩ bX bA ⟨by decide, by decide⟩ (by decide)
  rw [awake1] at h1
  refine XCall.givv h1 ?_
  refine And.intro rfl (And.intro (AVles.cons (AVle.agg (AVles.cons (AVle.nils _ _) (AVles.cons (AVle.fs fun i j hi hj => ?_) AVles.nil))) (AVles.refl _)) ?_)
  · obtain rfl : j = 0 := by omega
    match i, hi with
    | 0, _ => rfl
    | 1, _ => rfl
    | 2, _ => rfl
    | n + 3, h => omega
  repeat (first | (refine Sq.nx ?_; try dsimp only [St.put, rn, rns, rid, rnH, rnB, dead, AV.cells, setAt, enumEnv, List.length_nil, List.length_cons, List.getElem?_nil, List.getElem?_cons_zero, List.getElem?_cons_succ, Nat.reduceAdd, Nat.reduceSub, Nat.add_zero]) | refine Bq.nx ?_ | refine Bq.hit rfl ?_ | refine Bq.miss rfl ?_ | refine Sq.ex ?_ | refine Sq.rt ?_ | refine Bq.rt ?_ | refine Lq.ex ?_ | refine Lq.rt ?_ | with_reducible refine seq.mk ?_ | with_reducible refine blk.mk ?_ )
  have h2 := put13 ⟨[⟨bX, bA, ⟨#[]⟩, false⟩], [0, 3]⟩ bX bB ⟨by decide, by decide⟩ (by decide)
  rw [awake2] at h2
  refine XCall.givv h2 ?_
  refine And.intro rfl (And.intro (AVles.refl _) ?_)
  repeat (first | (refine Sq.nx ?_; try dsimp only [St.put, rn, rns, rid, rnH, rnB, dead, AV.cells, setAt, enumEnv, List.length_nil, List.length_cons, List.getElem?_nil, List.getElem?_cons_zero, List.getElem?_cons_succ, Nat.reduceAdd, Nat.reduceSub, Nat.add_zero]) | refine Bq.nx ?_ | refine Bq.hit rfl ?_ | refine Bq.miss rfl ?_ | refine Sq.ex ?_ | refine Sq.rt ?_ | refine Bq.rt ?_ | refine Lq.ex ?_ | refine Lq.rt ?_ | with_reducible refine seq.mk ?_ | with_reducible refine blk.mk ?_ )
  have h3 := get12 ⟨[⟨bX, bB, bA, true⟩], [3]⟩ bX ⟨by decide, by decide⟩
  rw [awake3] at h3
  refine XCall.givv h3 ?_
  refine And.intro rfl (And.intro (AVles.refl _) ?_)
  repeat (first | (refine Sq.nx ?_; try dsimp only [St.put, rn, rns, rid, rnH, rnB, dead, AV.cells, setAt, enumEnv, List.length_nil, List.length_cons, List.getElem?_nil, List.getElem?_cons_zero, List.getElem?_cons_succ, Nat.reduceAdd, Nat.reduceSub, Nat.add_zero]) | refine Bq.nx ?_ | refine Bq.hit rfl ?_ | refine Bq.miss rfl ?_ | refine Sq.ex ?_ | refine Sq.rt ?_ | refine Bq.rt ?_ | refine Lq.ex ?_ | refine Lq.rt ?_ | with_reducible refine seq.mk ?_ | with_reducible refine blk.mk ?_ )
  have no : ((0 : Int) == 0) = false → False := fun h => by cases h
  refine brk.mk (fun _ => ?_) (fun h => (no h).elim)
  refine brk.mk (fun _ => ?_) (fun h => (no h).elim)
  refine brk.mk (fun _ => ?_) (fun h => (no h).elim)
  refine brk.mk (fun _ => ?_) (fun h => by have h' : (bA.toList == bA.toList) = false := h; simp at h')
  repeat (first | (refine Sq.nx ?_; try dsimp only [St.put, rn, rns, rid, rnH, rnB, dead, AV.cells, setAt, enumEnv, List.length_nil, List.length_cons, List.getElem?_nil, List.getElem?_cons_zero, List.getElem?_cons_succ, Nat.reduceAdd, Nat.reduceSub, Nat.add_zero]) | refine Bq.nx ?_ | refine Bq.hit rfl ?_ | refine Bq.miss rfl ?_ | refine Sq.ex ?_ | refine Sq.rt ?_ | refine Bq.rt ?_ | refine Lq.ex ?_ | refine Lq.rt ?_ | with_reducible refine seq.mk ?_ | with_reducible refine blk.mk ?_ )
  refine Rq.rt ?_
  exact And.intro rfl (AVle.of_eq rfl)
end Go.Proofs.T

namespace Go.Proofs.T
open Go Go.Hb

/-! ### What the shelf's answers mean -/

structure Good (x : Ob) : Prop where
  named : Named x.name
  data : x.data.size ≤ 65536
  was : x.was.size ≤ 65536
  form : x.had = false → x.was.size = 0
def Fit (l : List Ob) : Prop := l.Pairwise (fun a b => ltb a.name b.name = true) ∧ ∀ x ∈ l, Good x

theorem fit_iff {l : List Ob} : check l = 0 ↔ Fit l := by
  rw [check0]
  constructor
  · intro h
    refine ⟨?_, fun x hx => ?_⟩
    · rw [List.pairwise_iff_getElem]
      intro i j hi hj hij
      have := sorted_of h i j hij hj
      rwa [getD_of hi, getD_of hj] at this
    · obtain ⟨k, hk, rfl⟩ := List.mem_iff_getElem.1 hx
      have f := h k hk
      have e := getD_of hk
      refine ⟨by rw [← e]; exact f.named, ?_, ?_, fun hh => ?_⟩
      · have := f.big; rw [e] at this; omega
      · have := f.big; rw [e] at this; omega
      · have := f.form
        rw [e] at this
        exact Decidable.not_not.1 fun hc => this ⟨hh, hc⟩
  · rintro ⟨hs, hg⟩ k hk
    rw [List.pairwise_iff_getElem] at hs
    have g := hg l[k] (List.getElem_mem hk)
    refine ⟨?_, fun ⟨h0, h1⟩ => ?_, fun ⟨h0, h1⟩ => ?_, ?_, fun ⟨h1, h2⟩ => ?_⟩
    · rw [getD_of hk]; exact g.named
    · have := hs (k - 1) k (by omega) hk (by omega)
      rw [getD_of hk, getD_of (show k - 1 < l.length by omega)] at h1
      exact ltb_ne this h1
    · have := hs (k - 1) k (by omega) hk (by omega)
      rw [getD_of hk, getD_of (show k - 1 < l.length by omega)] at h1
      rw [ltb_asymm this] at h1
      cases h1
    · rw [getD_of hk]
      have h1 := g.data
      have h2 := g.was
      omega
    · rw [getD_of hk] at h1 h2
      exact h2 (g.form h1)
theorem Fit.sorted {l : List Ob} (h : Fit l) : Sorted l := sorted_of (check0.1 (fit_iff.2 h))

theorem wo_fit {l : List Ob} (h : Fit l) (name : ByteArray) (w : Bool) (x : Ob) (hx : w = true → Good x ∧ x.name = name) : Fit (wo l name w x) := by
  obtain ⟨hs, hg⟩ := h
  have hf : ∀ p : Ob → Bool, (l.filter p).Pairwise (fun a b => ltb a.name b.name = true) := fun p => hs.sublist List.filter_sublist
  unfold wo
  refine ⟨?_, fun y hy => ?_⟩
  · rw [List.pairwise_append]
    refine ⟨hf _, ?_, fun a ha b hb => ?_⟩
    · cases w with
      | false => exact hf _
      | true =>
        show (x :: l.filter _).Pairwise _
        rw [List.pairwise_cons]
        refine ⟨fun b hb => ?_, hf _⟩
        rw [(hx rfl).2]
        exact (List.mem_filter.1 hb).2
    · have h1 : ltb a.name name = true := (List.mem_filter.1 ha).2
      cases w with
      | false => exact ltb_trans h1 (List.mem_filter.1 hb).2
      | true =>
        rcases List.mem_cons.1 hb with e | e
        · rw [e, (hx rfl).2]; exact h1
        · exact ltb_trans h1 (List.mem_filter.1 e).2
  · rcases List.mem_append.1 hy with e | e
    · exact hg y (List.mem_filter.1 e).1
    · cases w with
      | false => exact hg y (List.mem_filter.1 e).1
      | true =>
        rcases List.mem_cons.1 e with e | e
        · rw [e]; exact (hx rfl).1
        · exact hg y (List.mem_filter.1 e).1

theorem findR_append (a b : List Ob) (name : ByteArray) : findR (a ++ b) name = (findR a name).or (findR b name) := List.find?_append
theorem findR_filter_keep {l : List Ob} {name : ByteArray} {p : Ob → Bool} (h : ∀ x, x.name = name → p x = true) : findR (l.filter p) name = findR l name := by
  unfold findR
  rw [List.find?_filter]
  congr 1
  funext x
  by_cases hx : x.name = name
  · simp [h x hx]
  · simp [hx]
theorem findR_filter_none {l : List Ob} {name : ByteArray} {p : Ob → Bool} (h : ∀ x, x.name = name → p x = false) : findR (l.filter p) name = none := by
  unfold findR
  rw [List.find?_eq_none]
  intro x hx hn
  have e : x.name = name := by simpa using hn
  have := (List.mem_filter.1 hx).2
  rw [h x e] at this
  cases this
theorem findR_one (x : Ob) (l : List Ob) (name : ByteArray) : findR (x :: l) name = if x.name = name then some x else findR l name := by
  unfold findR
  rw [List.find?_cons]
  by_cases h : x.name = name
  · simp [h]
  · simp [h]
theorem wo_same {l : List Ob} {name : ByteArray} {x : Ob} (hx : x.name = name) : findR (wo l name true x) name = some x := by
  unfold wo
  rw [findR_append, findR_filter_none (fun y hy => by rw [hy]; exact ltb_irrefl name)]
  show (none : Option Ob).or (findR (x :: _) name) = _
  rw [findR_one, if_pos hx]
  rfl
theorem wo_gone {l : List Ob} {name : ByteArray} {x : Ob} : findR (wo l name false x) name = none := by
  unfold wo
  rw [findR_append, findR_filter_none (fun y hy => by rw [hy]; exact ltb_irrefl name)]
  show (none : Option Ob).or (findR (l.filter _) name) = _
  rw [findR_filter_none (fun y hy => by rw [hy]; exact ltb_irrefl name)]
  rfl
theorem wo_other {l : List Ob} {name other : ByteArray} {w : Bool} {x : Ob} (hx : w = true → x.name = name) (hne : other ≠ name) : findR (wo l name w x) other = findR l other := by
  unfold wo
  rw [findR_append]
  have fin : (findR (l.filter (fun o => ltb o.name name)) other).or (findR (l.filter (fun o => ltb name o.name)) other) = findR l other := by
    rcases ltb_tri other name with h | h | h
    · rw [findR_filter_keep (fun y hy => by rw [hy]; exact h), findR_filter_none (fun y hy => by rw [hy]; exact ltb_asymm h)]
      cases findR l other <;> rfl
    · exact absurd h hne
    · rw [findR_filter_none (fun y hy => by rw [hy]; exact ltb_asymm h), findR_filter_keep (fun y hy => by rw [hy]; exact h)]
      rfl
  cases w with
  | false => exact fin
  | true =>
    show (findR _ other).or (findR (x :: l.filter (fun o => ltb name o.name)) other) = _
    rw [findR_one, if_neg (fun e => hne (by rw [← e, hx rfl]))]
    exact fin

/-- What lies under a name. -/
def under (l : List Ob) (name : ByteArray) : Ob := match findR l name with
  | some x => x
  | none => ob0
theorem upd_wo {l : List Ob} (h : Fit l) (name data : ByteArray) : upd l name data = wo l name true ⟨name, data, (under l name).data, (findR l name).isSome⟩ := by
  have hS := h.sorted
  unfold upd under
  rw [findR_eq hS]
  by_cases ht : there l name
  · rw [if_pos ht, if_pos ht, wo_there hS ht]
    rfl
  · rw [if_neg ht, if_neg ht, wo_not hS ht]
    rfl
theorem findR_mem {l : List Ob} {name : ByteArray} {x : Ob} (h : findR l name = some x) : x ∈ l ∧ x.name = name := by
  unfold findR at h
  exact ⟨List.mem_of_find?_eq_some h, by simpa using List.find?_some h⟩
theorem upd_fit {l : List Ob} (h : Fit l) {name data : ByteArray} (hn : Named name) (hd : data.size ≤ 65536) : Fit (upd l name data) := by
  rw [upd_wo h]
  refine wo_fit h name true _ fun _ => ⟨⟨hn, hd, ?_, fun hh => ?_⟩, rfl⟩
  · show (under l name).data.size ≤ 65536
    unfold under
    cases hf : findR l name with
    | none => exact Nat.zero_le _
    | some x => exact (h.2 x (findR_mem hf).1).data
  · show (under l name).data.size = 0
    unfold under
    cases hf : findR l name with
    | none => rfl
    | some x => rw [hf] at hh; cases hh
theorem del_wo {l : List Ob} (h : Fit l) {name : ByteArray} (ht : there l name) : del l (pos l name) = wo l name false ob0 := (wo_del h.sorted ht ob0).symm
theorem del_fit {l : List Ob} (h : Fit l) {name : ByteArray} (ht : there l name) : Fit (del l (pos l name)) := by
  rw [del_wo h ht]
  exact wo_fit h name false ob0 fun h => by cases h
theorem there_iff {l : List Ob} (h : Fit l) (name : ByteArray) : there l name ↔ (findR l name).isSome = true := by
  rw [findR_eq h.sorted]
  by_cases ht : there l name
  · simp [ht]
  · simp [ht]
theorem at_under {l : List Ob} (h : Fit l) {name : ByteArray} (ht : there l name) : l.getD (pos l name) ob0 = under l name := by
  unfold under
  rw [findR_eq h.sorted, if_pos ht]

theorem flip_size (x : ByteArray) : (flip x).size = x.size := by
  unfold flip
  by_cases h : x.size = 0
  · rw [dif_pos h]
  · rw [dif_neg h, ByteArray.size_append, ByteArray.size_extract]
    show min (x.size - 1) x.size - 0 + 1 = x.size
    omega

/-! ### Get, as its fate has it -/

theorem get_fit {s : Sh} {name : ByteArray} (h : Fit s.objs) (hn : Named name) : (get s name).1 = ⟨s.objs, s.fates.tail⟩ := by
  unfold get
  rw [if_neg (fun hc => hc (fit_iff.2 h)), if_neg (fun hc => hc hn)]
  split
  · rfl
  · split
    · rfl
    · split
      · rfl
      · split <;> rfl
theorem get_honest {s : Sh} {name : ByteArray} (h : Fit s.objs) (hn : Named name) (hf : fateOf s = 0) :
    (get s name).2 = match findR s.objs name with
      | some x => (x.data, 0)
      | none => (⟨#[]⟩, 9) := by
  unfold get
  rw [if_neg (fun hc => hc (fit_iff.2 h)), if_neg (fun hc => hc hn), if_neg (by rw [hf]; decide)]
  have ht := there_iff h name
  cases hr : findR s.objs name with
  | none =>
    rw [hr] at ht
    have hnt : ¬ there s.objs name := fun t => by have := ht.1 t; cases this
    rw [if_pos (.inr (.inl hnt))]
  | some x =>
    rw [hr] at ht
    have hth : there s.objs name := ht.2 rfl
    rw [if_neg (by rw [hf]; rintro (h | h | h); · cases h
                   · exact h hth
                   · cases h.1), if_neg (by rw [hf]; decide), if_neg (by rw [hf]; decide), at_under h hth]
    unfold under
    rw [hr]
theorem put_ok {s : Sh} {name data : ByteArray} (h : Fit s.objs) (hn : Named name) (hd : data.size ≤ 65536) (hf : fateOf s = 0) : put s name data = (⟨upd s.objs name data, s.fates.tail⟩, 0) := by
  unfold put
  rw [if_neg (fun hc => hc (fit_iff.2 h)), if_neg (fun hc => hc hn), if_neg (by omega), if_neg (by rw [hf]; decide), if_neg (by rw [hf]; decide), if_neg (by rw [hf]; decide)]

/-! ### A name is the first that begins with it -/

theorem pre_refl (x : ByteArray) : pre x x = true := by
  unfold pre
  rw [decide_eq_true (Nat.le_refl _), ByteArray.extract_zero_size]
  simp
theorem lt_prefix : ∀ (p t : List UInt8), ¬ (p ++ t < p)
  | [], t, h => by cases t <;> cases h
  | a :: p, t, h => by
    rw [List.cons_append, List.cons_lt_cons_iff] at h
    rcases h with h | ⟨_, h⟩
    · exact absurd h (by simp)
    · exact lt_prefix p t h
theorem pre_not_lt {x p : ByteArray} (h : pre x p = true) : ltb x p = false := by
  unfold pre at h
  rw [Bool.and_eq_true] at h
  obtain ⟨h1, h2⟩ := h
  rw [beq_iff] at h2
  have e := of_decide_eq_true h2
  unfold ltb
  refine decide_eq_false fun hlt => ?_
  have hx : x.data.toList = p.data.toList ++ x.data.toList.drop p.size := by
    conv => lhs; rw [← List.take_append_drop p.size x.data.toList]
    congr 1
    rw [← e]
    simp
  rw [hx] at hlt
  exact lt_prefix _ _ hlt
theorem names_head {l : List Ob} {name : ByteArray} {x : Ob} (hx : x.name = name) : ∃ t, names 0 name (wo l name true x) = name :: t := by
  unfold names wo
  rw [List.filter_append, List.filter_append]
  have e1 : ((l.filter fun o => ltb o.name name).filter (keep 0 name)) = [] := by
    rw [List.filter_eq_nil_iff]
    intro y hy hk
    have h1 : ltb y.name name = true := (List.mem_filter.1 hy).2
    unfold keep at hk
    rw [Bool.and_eq_true] at hk
    rw [pre_not_lt hk.1] at h1
    cases h1
  have e2 : [x].filter (keep 0 name) = [x] := by
    rw [List.filter_cons_of_pos]
    · rfl
    · unfold keep
      rw [hx, pre_refl]
      rfl
  rw [e1, List.nil_append]
  refine ⟨((l.filter fun o => ltb name o.name).filter (keep 0 name)).map (·.name), ?_⟩
  show List.map (·.name) ([x].filter (keep 0 name) ++ (l.filter fun o => ltb name o.name).filter (keep 0 name)) = _
  rw [e2]
  show x.name :: _ = _
  rw [hx]
  rfl
end Go.Proofs.T

namespace Go.Proofs.T
open Go Go.Hb Go.ChangeShapes Go.WideShapes Go.ChangeAt Go.RowKit Go.Joins  Go.Proofs.Ytjmjlncnadmajaa

theorem own : ownKnob Try.prog.godebug = none := by kernel_rfl
theorem laidOut : laidOutB Try.prog = true := by kernel_rfl
theorem cells25 : Try.prog.cellsOf 25 = 2 := by kernel_rfl
theorem cells50 : Try.prog.cellsOf 50 = 4 := by kernel_rfl
theorem cells3 : Try.prog.cellsOf 3 = 1 := by kernel_rfl
theorem cells4 : Try.prog.cellsOf 4 = 1 := by kernel_rfl
theorem cells9 : Try.prog.cellsOf 9 = 1 := by kernel_rfl

section
variable {H : Type} {enc : TypeId × Value → H} {w : World} {sp : Nat → Bool} {held : Bool}
def RO (cs : List Value) (o : Ob) : Prop := cs = [.string o.name, .string o.data, .string o.was, .bool o.had]
def CO (o : Ob) (j : Nat) : CV := match j with
  | 0 => .s o.name
  | 1 => .s o.data
  | 2 => .s o.was
  | _ => .b o.had
theorem open_ob (n : Nat) (cs : List Value) (y : DataW H × List MemPlace) (h : DataW.trod enc Try.prog w 0 sp held n 50 cs = some y) : ∃ o, RO cs o := by
  obtain ⟨y0, y1, y2, y3, m, _, hl, h0, h1, h2, h3⟩ := trod_struct4 Try.underlying50 h
  rw [cells50] at hl
  match cs, hl with
  | [c0, c1, c2, c3], _ =>
    obtain ⟨a, e0, _⟩ := DataW.trod_string Try.underlying9 (by simpa [cells9] using h0)
    obtain ⟨b, e1, _⟩ := DataW.trod_string Try.underlying9 (by simpa [cells9] using h1)
    obtain ⟨c, e2, _⟩ := DataW.trod_string Try.underlying9 (by simpa [cells9] using h2)
    obtain ⟨d, e3, _⟩ := DataW.trod_bool Try.underlying4 (by simpa [cells4] using h3)
    cases e0; cases e1; cases e2; cases e3
    exact ⟨⟨a, b, c, d⟩, rfl⟩
theorem rel_ob (cs : List Value) (o : Ob) (h : RO cs o) (j : Nat) (hj : j < 4) : ∃ u, cs[j]? = some u ∧ RelC w (fun k => k < w.heap.size) (CO o j) u := by
  cases h
  match j, hj with
  | 0, _ => exact ⟨_, rfl, rfl⟩
  | 1, _ => exact ⟨_, rfl, rfl⟩
  | 2, _ => exact ⟨_, rfl, rfl⟩
  | 3, _ => exact ⟨_, rfl, rfl⟩
def RI (cs : List Value) (z : Int) : Prop := cs = [.int .i64 z]
theorem rel_int1 (cs : List Value) (z : Int) (h : RI cs z) (j : Nat) (hj : j < 1) : ∃ u, cs[j]? = some u ∧ RelC w (fun k => k < w.heap.size) (.i .i64 z) u := by
  cases h
  obtain rfl : j = 0 := by omega
  exact ⟨_, rfl, rfl⟩
theorem open_int1 (n : Nat) (cs : List Value) (y : DataW H × List MemPlace) (h : DataW.trod enc Try.prog w 0 sp held n 3 cs = some y) : ∃ z : Int, RI cs z := by
  obtain ⟨z, e, _⟩ := DataW.trod_int Try.underlying3 h
  exact ⟨z, e⟩
/-- A shelf, read. -/
theorem open_shelf {v : Value} {d : DataW H} {p : List MemPlace} {base : Nat} (hv : Value.okWide Try.prog w .any base 25 v) (h : DataW.Trod enc Try.prog w 0 sp held 25 v d p) :
    ∃ s : Sh, RelV ⟨w, fun k => k < w.heap.size, noLoc⟩ (sAV s) v := by
  obtain ⟨v0, v1, y0, y1, n, rfl, _, _, h0, h1⟩ := open_agg2 Try.underlying25 (by kernel_rfl) cells25 hv h
  obtain ⟨l, A, cap, rfl, hle, _, hg⟩ := open_rows ob0 Try.underlying22 cells50 RO open_ob h0
  obtain ⟨m, B, cap2, rfl, hle2, _, hg2⟩ := open_rows (0 : Int) Try.underlying23 cells3 RI open_int1 h1
  refine ⟨⟨l, m⟩, ?_⟩
  unfold sAV oAV fAV
  simp only [RelV, RelVs]
  refine ⟨_, rfl, ?_, ?_, trivial⟩
  · exact rows_rel (C := CO) (by decide) rel_ob hle hg
  · exact rows_rel (C := fun z _ => .i .i64 z) (by decide) rel_int1 hle2 hg2
theorem open_str {v : Value} {d : DataW H} {p : List MemPlace} {base : Nat} (hv : Value.okWide Try.prog w .any base 9 v) (h : DataW.Trod enc Try.prog w 0 sp held 9 v d p) :
    ∃ s : ByteArray, RelV ⟨w, fun k => k < w.heap.size, noLoc⟩ (.s s) v := by
  obtain ⟨s, rfl, _⟩ := ChangeMaps.open_string Try.underlying9 hv h
  exact ⟨s, by simp only [RelV]⟩
theorem cells46 : Try.prog.cellsOf 46 = 3 := by kernel_rfl
def RA (cs : List Value) (a : Ac) : Prop := cs = [.int .i64 a.kind, .string a.name, .string a.data]
def CA (a : Ac) (j : Nat) : CV := match j with
  | 0 => .i .i64 a.kind
  | 1 => .s a.name
  | _ => .s a.data
theorem open_ac (n : Nat) (cs : List Value) (y : DataW H × List MemPlace) (h : DataW.trod enc Try.prog w 0 sp held n 46 cs = some y) : ∃ a, RA cs a := by
  obtain ⟨y0, y1, y2, m, _, hl, h0, h1, h2⟩ := Deep.trod_struct3 Try.underlying46 h
  rw [cells46] at hl
  match cs, hl with
  | [c0, c1, c2], _ =>
    obtain ⟨a, e0, _⟩ := DataW.trod_int Try.underlying3 (by simpa [cells3] using h0)
    obtain ⟨b, e1, _⟩ := DataW.trod_string Try.underlying9 (by simpa [cells9] using h1)
    obtain ⟨c, e2, _⟩ := DataW.trod_string Try.underlying9 (by simpa [cells9] using h2)
    cases e0; cases e1; cases e2
    exact ⟨⟨a, b, c⟩, rfl⟩
theorem rel_ac (cs : List Value) (a : Ac) (h : RA cs a) (j : Nat) (hj : j < 3) : ∃ u, cs[j]? = some u ∧ RelC w (fun k => k < w.heap.size) (CA a j) u := by
  cases h
  match j, hj with
  | 0, _ => exact ⟨_, rfl, rfl⟩
  | 1, _ => exact ⟨_, rfl, rfl⟩
  | 2, _ => exact ⟨_, rfl, rfl⟩
/-- Calls, read. -/
theorem open_acts {v : Value} {d : DataW H} {p : List MemPlace} {base : Nat} (hv : Value.okWide Try.prog w .any base 43 v) (h : DataW.Trod enc Try.prog w 0 sp held 43 v d p) :
    ∃ l : List Ac, l.length ≤ 9223372036854775807 ∧ RelV ⟨w, fun k => k < w.heap.size, noLoc⟩ (aAV l) v := by
  obtain ⟨a, len, cap, rfl⟩ := okWide_slice Try.underlying43 hv
  obtain ⟨n, hn⟩ := h
  obtain ⟨l, A, cap', e, hle, hmx, hg⟩ := open_rows ac0 Try.underlying43 cells46 RA open_ac (by simpa [Value.cells] using hn)
  have hm : l.length ≤ 9223372036854775807 := by unfold maxLen at hmx; omega
  rw [e]
  refine ⟨l, hm, ?_⟩
  unfold aAV
  simp only [RelV]
  exact rows_rel (C := CA) (by decide) rel_ac hle hg
end

end Go.Proofs.T

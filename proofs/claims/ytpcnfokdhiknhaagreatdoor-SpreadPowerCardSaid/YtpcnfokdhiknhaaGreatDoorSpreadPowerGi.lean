/-
  Parts of the proof: no statement of the seat is proved here.
-/
import Derived.Test.YtpcnfokdhiknhaaGreatDoorSpreadPowerGh
import Derived.Test.YtpcnfokdhiknhaaGreatDoorCards
import Derived.Test.YtpcnfokdhiknhaaGreatDoorTie
import Derived.OpenShut
import Derived.Deep.DeepHandedRow
import Derived.Deep.DeepWitnessRowRef
import Derived.Lib.LaidU8
import Derived.Lay
set_option linter.unusedSimpArgs false
set_option linter.unusedVariables false
set_option linter.unusedSectionVars false

namespace Go.Proofs.T
open Go Go.Hb

def writeF (S : Nat → Sh) (L : Int) (name data : ByteArray) : (Nat → Sh) × Int × Int :=
  if lookF name data.size ≠ 0 then (S, L, (lookF name data.size : Nat)) else (shK (putC S name (partB name data)) S L 5, lf L 5, firstF (tdK (putC S name (partB name data)) L 5) 0 5)
set_option maxHeartbeats 4000000 in
theorem write13 (S : Nat → Sh) (L : Int) (name data : ByteArray) (hS : ∀ i, i < 5 → Small (S i)) (hL1 : -9223372036854775808 ≤ L) (hL2 : L < 9223372036854775808) :
    Pure Tryz.prog 13 [stA S L, .s name, .s data] (fun r => r = st2 (writeF S L name data)) := by
  refine Pure.weak (Post := fun v => AVle v (st2 (writeF S L name data))) (Pure.of (XCall.bodyw is13 rfl ?_)) fun r h => ⟨_, rfl, h⟩
  unfold m13
  refine aW ?_
  refine XCall.lenv (look32 name data.size) rfl ?_
  refine And.intro rfl (And.intro (AVles.refl _) ?_)
  refine aW ?_
  refine brk.mk (fun hk => ?_) (fun hk => ?_)
  · have hk' : lookF name data.size ≠ 0 := fun e => by rw [e] at hk; simp at hk
    refine aW ?_
    refine Rq.rt ?_
    refine And.intro rfl ?_
    unfold writeF
    rw [if_pos hk']
    exact AVle.refl _
  have hk0 : lookF name data.size = 0 := by have := (by simpa using hk : ((lookF name data.size : Nat) : Int) = 0); omega
  have hd : data.size ≤ 65536 ∧ name.size ≤ 100 := by
    unfold lookF at hk0
    split at hk0
    · cases hk0
    · split at hk0
      · cases hk0
      · omega
  obtain ⟨hd, hn100⟩ := hd
  have hpb : ∀ i, i < 5 → (partB name data i).size ≤ 1099511627776 := fun i hi => Nat.le_trans (partB_size name data i hn100 hd hi) (by omega)
  have hpost : writeF S L name data = (shK (putC S name (partB name data)) S L 5, lf L 5, firstF (tdK (putC S name (partB name data)) L 5) 0 5) := by
    unfold writeF
    rw [if_neg (fun h => h hk0)]
  rw [hpost]
  obtain ⟨c, hcd⟩ : ∃ c, c = putC S name (partB name data) := ⟨_, rfl⟩
  rw [← hcd]
  have hc1 : ∀ j, (c j).1 = (put (S j) name (partB name data j)).1 := fun j => by rw [hcd]; rfl
  have hc2 : ∀ j, (c j).2 = ⟨⟨#[]⟩, (put (S j) name (partB name data j)).2⟩ := fun j => by rw [hcd]; rfl
  refine aW ?_
  refine XCall.givv (cut33 data hd) ?_
  refine And.intro rfl (And.intro (AVles.refl _) ?_)
  refine aW ?_
  refine XCall.bodyw is34 rfl ?_
  unfold m34
  refine aW ?_
  refine XCall.bodyw is49 rfl ?_
  unfold m49
  refine aW ?_
  refine lpW.mk (fun σ => ∃ i : Nat, i ≤ 5 ∧ σ = ⟨[(1, .fn (.func 69) [] [.p 6 0, .p 7 0]), (2, .p 9 0), (4, .p 10 0), (5, .p 11 0), (7, .p 12 0), (8, .b (gn L i)), (10, .i .i64 ((i : Nat) : Int))], [(0, .lit (st11 S L)), (1, .lit [.s name]), (2, .lit [.s data]), (3, .lit z11), (4, .lit [.fs 5 2 (cP data)]), (5, .lit (st11 S L)), (6, .lit [.s name]), (7, .lit [.fn (.func 35) [] [.p 4 0, .p 1 0, .p 2 0]]), (8, .lit z11), (9, .lit (st11 (shK c S L i) (lf L i))), (10, .lit z11), (11, .lit z15), (12, .lit (t5 (tdK c L i)))], 13⟩) (fun σ => (5 - num 10 σ).toNat) ?_ ?_
  · refine ⟨_, Le.trans (Le.lev (t := 8) rfl (Lev.of (AVle.trans AVle.ff (AVle.of_eq (congrArg AV.b (gn_0 L).symm))))) (Le.mk ?_ ?_ rfl rfl), 0, by decide, rfl⟩
    · exact ⟨rfl, rfl, rfl, rfl, rfl, rfl, rfl, trivial⟩
    · exact ⟨rfl, rfl, rfl, rfl, rfl, rfl, rfl, rfl, rfl, by rw [shK0, lf0]; rfl, rfl, rfl, by rw [tdK0]; rfl, trivial⟩
  rintro σ' ⟨i, hi, rfl⟩
  obtain rfl | rfl | rfl | rfl | rfl | rfl : i = 0 ∨ i = 1 ∨ i = 2 ∨ i = 3 ∨ i = 4 ∨ i = 5 := by omega
  · refine aW ?_
    refine brk.mk (fun hc => ?_) (fun hc => ?_)
    rotate_left
    · exact absurd hc (by decide)
    refine aW ?_
    refine brk.mk (fun hz => ?_) (fun hz => ?_)
    · have hd0 := dead_of (i := 0) hz
      refine aW ?_
      refine Exists.intro 0 (And.intro rfl (And.intro (by decide) ?_))
      refine aW ?_
      refine Lq.nx _ (Le.trans (Le.lev (t := 8) rfl (Lev.of (AVle.trans AVle.tt (AVle.of_eq (congrArg AV.b (gn_dead hd0).symm))))) (Le.mk ?_ ?_ rfl rfl)) ⟨1, by decide, rfl⟩ ?_
      · exact ⟨rfl, rfl, rfl, rfl, rfl, rfl, rfl, trivial⟩
      · exact ⟨rfl, rfl, rfl, rfl, rfl, rfl, rfl, rfl, rfl, by rw [shK_dead hd0, lf_dead hd0]; rfl, rfl, rfl, by rw [tdK_step (i := 0) ⟨⟨#[]⟩, 17⟩ (if_neg (by rw [hd0]; decide))]; exact td_e c L 0 (by decide) 17, trivial⟩
      · show (5 - ((1 : Nat) : Int)).toNat < (5 - ((0 : Nat) : Int)).toNat
        decide
    have hv := live_of (i := 0) hz
    have hwr := lf_le (i := 0) hL1 hL2
    have hg := gn_live hv
    refine aW ?_
    refine brk.mk (fun hp => ?_) (fun hp => ?_)
    · refine aW ?_
      have hl := lf_dec hv (of_decide_eq_true hp)
      have hw : IntKind.i64.wrap (lf L 0 - 1) = lf L 1 := by rw [wrap_int (by have := of_decide_eq_true hp; omega) (by omega)]; exact hl.symm
      refine Exists.intro 0 (And.intro rfl (And.intro (by decide) ?_))
      refine XCall.bodyw is69 rfl ?_
      unfold m69
      refine aW ?_
      refine XCall.lenv (write35 name data 0 hn100 hd (by decide)) rfl ?_
      refine And.intro rfl (And.intro (AVles.refl _) ?_)
      refine And.intro rfl ?_
      refine And.intro rfl ?_
      refine aN ?_
      refine XCall.givv (put13 (S 0) name (partB name data 0) (hS 0 (by decide)) (hpb 0 (by decide))) ?_
      refine And.intro rfl (And.intro (AVles.cons (AVle.of_eq (congrArg sAV (shK_at (c := c) (S := S) (L := L) (i := 0)))) (AVles.refl _)) ?_)
      refine aN ?_
      refine aW ?_
      refine Rq.rt ?_
      refine Exists.intro 0 (And.intro rfl (And.intro (by decide) ?_))
      refine Exists.intro 0 (And.intro rfl (And.intro (by decide) ?_))
      refine aW ?_
      refine Lq.nx _ (Le.mk ?_ ?_ rfl rfl) ⟨1, by decide, rfl⟩ ?_
      · exact ⟨rfl, rfl, rfl, rfl, rfl, congrArg AV.b (hg.1.trans hg.2.symm), rfl, trivial⟩
      · exact ⟨rfl, rfl, rfl, rfl, rfl, rfl, rfl, rfl, rfl, by rw [shK_live hv, hc1 0]; exact st_setD (shK c S L 0) _ _ 0 (by decide) (put (S 0) name (partB name data 0)).1 hw rfl, rfl, rfl, by rw [tdK_step (i := 0) (c 0).2 (if_pos hv), hc2 0]; exact td_set (tdK c L 0) 0 (by decide) ⟨⟨#[]⟩, (put (S 0) name (partB name data 0)).2⟩, trivial⟩
      · show (5 - ((1 : Nat) : Int)).toNat < (5 - ((0 : Nat) : Int)).toNat
        decide
    · refine aW ?_
      have hl := lf_neg hv (of_decide_eq_false hp)
      refine Exists.intro 0 (And.intro rfl (And.intro (by decide) ?_))
      refine XCall.bodyw is69 rfl ?_
      unfold m69
      refine aW ?_
      refine XCall.lenv (write35 name data 0 hn100 hd (by decide)) rfl ?_
      refine And.intro rfl (And.intro (AVles.refl _) ?_)
      refine And.intro rfl ?_
      refine And.intro rfl ?_
      refine aN ?_
      refine XCall.givv (put13 (S 0) name (partB name data 0) (hS 0 (by decide)) (hpb 0 (by decide))) ?_
      refine And.intro rfl (And.intro (AVles.cons (AVle.of_eq (congrArg sAV (shK_at (c := c) (S := S) (L := L) (i := 0)))) (AVles.refl _)) ?_)
      refine aN ?_
      refine aW ?_
      refine Rq.rt ?_
      refine Exists.intro 0 (And.intro rfl (And.intro (by decide) ?_))
      refine Exists.intro 0 (And.intro rfl (And.intro (by decide) ?_))
      refine aW ?_
      refine Lq.nx _ (Le.mk ?_ ?_ rfl rfl) ⟨1, by decide, rfl⟩ ?_
      · exact ⟨rfl, rfl, rfl, rfl, rfl, congrArg AV.b (hg.1.trans hg.2.symm), rfl, trivial⟩
      · exact ⟨rfl, rfl, rfl, rfl, rfl, rfl, rfl, rfl, rfl, by rw [shK_live hv, hc1 0]; exact st_setDN (shK c S L 0) _ _ 0 (by decide) (put (S 0) name (partB name data 0)).1 hl.symm, rfl, rfl, by rw [tdK_step (i := 0) (c 0).2 (if_pos hv), hc2 0]; exact td_set (tdK c L 0) 0 (by decide) ⟨⟨#[]⟩, (put (S 0) name (partB name data 0)).2⟩, trivial⟩
      · show (5 - ((1 : Nat) : Int)).toNat < (5 - ((0 : Nat) : Int)).toNat
        decide
  · refine aW ?_
    refine brk.mk (fun hc => ?_) (fun hc => ?_)
    rotate_left
    · exact absurd hc (by decide)
    refine aW ?_
    refine brk.mk (fun hz => ?_) (fun hz => ?_)
    · have hd0 := dead_of (i := 1) hz
      refine aW ?_
      refine Exists.intro 1 (And.intro rfl (And.intro (by decide) ?_))
      refine aW ?_
      refine Lq.nx _ (Le.trans (Le.lev (t := 8) rfl (Lev.of (AVle.trans AVle.tt (AVle.of_eq (congrArg AV.b (gn_dead hd0).symm))))) (Le.mk ?_ ?_ rfl rfl)) ⟨2, by decide, rfl⟩ ?_
      · exact ⟨rfl, rfl, rfl, rfl, rfl, rfl, rfl, trivial⟩
      · exact ⟨rfl, rfl, rfl, rfl, rfl, rfl, rfl, rfl, rfl, by rw [shK_dead hd0, lf_dead hd0]; rfl, rfl, rfl, by rw [tdK_step (i := 1) ⟨⟨#[]⟩, 17⟩ (if_neg (by rw [hd0]; decide))]; exact td_e c L 1 (by decide) 17, trivial⟩
      · show (5 - ((2 : Nat) : Int)).toNat < (5 - ((1 : Nat) : Int)).toNat
        decide
    have hv := live_of (i := 1) hz
    have hwr := lf_le (i := 1) hL1 hL2
    have hg := gn_live hv
    refine aW ?_
    refine brk.mk (fun hp => ?_) (fun hp => ?_)
    · refine aW ?_
      have hl := lf_dec hv (of_decide_eq_true hp)
      have hw : IntKind.i64.wrap (lf L 1 - 1) = lf L 2 := by rw [wrap_int (by have := of_decide_eq_true hp; omega) (by omega)]; exact hl.symm
      refine Exists.intro 1 (And.intro rfl (And.intro (by decide) ?_))
      refine XCall.bodyw is69 rfl ?_
      unfold m69
      refine aW ?_
      refine XCall.lenv (write35 name data 1 hn100 hd (by decide)) rfl ?_
      refine And.intro rfl (And.intro (AVles.refl _) ?_)
      refine And.intro rfl ?_
      refine And.intro rfl ?_
      refine aN ?_
      refine XCall.givv (put13 (S 1) name (partB name data 1) (hS 1 (by decide)) (hpb 1 (by decide))) ?_
      refine And.intro rfl (And.intro (AVles.cons (AVle.of_eq (congrArg sAV (shK_at (c := c) (S := S) (L := L) (i := 1)))) (AVles.refl _)) ?_)
      refine aN ?_
      refine aW ?_
      refine Rq.rt ?_
      refine Exists.intro 1 (And.intro rfl (And.intro (by decide) ?_))
      refine Exists.intro 1 (And.intro rfl (And.intro (by decide) ?_))
      refine aW ?_
      refine Lq.nx _ (Le.mk ?_ ?_ rfl rfl) ⟨2, by decide, rfl⟩ ?_
      · exact ⟨rfl, rfl, rfl, rfl, rfl, congrArg AV.b (hg.1.trans hg.2.symm), rfl, trivial⟩
      · exact ⟨rfl, rfl, rfl, rfl, rfl, rfl, rfl, rfl, rfl, by rw [shK_live hv, hc1 1]; exact st_setD (shK c S L 1) _ _ 1 (by decide) (put (S 1) name (partB name data 1)).1 hw rfl, rfl, rfl, by rw [tdK_step (i := 1) (c 1).2 (if_pos hv), hc2 1]; exact td_set (tdK c L 1) 1 (by decide) ⟨⟨#[]⟩, (put (S 1) name (partB name data 1)).2⟩, trivial⟩
      · show (5 - ((2 : Nat) : Int)).toNat < (5 - ((1 : Nat) : Int)).toNat
        decide
    · refine aW ?_
      have hl := lf_neg hv (of_decide_eq_false hp)
      refine Exists.intro 1 (And.intro rfl (And.intro (by decide) ?_))
      refine XCall.bodyw is69 rfl ?_
      unfold m69
      refine aW ?_
      refine XCall.lenv (write35 name data 1 hn100 hd (by decide)) rfl ?_
      refine And.intro rfl (And.intro (AVles.refl _) ?_)
      refine And.intro rfl ?_
      refine And.intro rfl ?_
      refine aN ?_
      refine XCall.givv (put13 (S 1) name (partB name data 1) (hS 1 (by decide)) (hpb 1 (by decide))) ?_
      refine And.intro rfl (And.intro (AVles.cons (AVle.of_eq (congrArg sAV (shK_at (c := c) (S := S) (L := L) (i := 1)))) (AVles.refl _)) ?_)
      refine aN ?_
      refine aW ?_
      refine Rq.rt ?_
      refine Exists.intro 1 (And.intro rfl (And.intro (by decide) ?_))
      refine Exists.intro 1 (And.intro rfl (And.intro (by decide) ?_))
      refine aW ?_
      refine Lq.nx _ (Le.mk ?_ ?_ rfl rfl) ⟨2, by decide, rfl⟩ ?_
      · exact ⟨rfl, rfl, rfl, rfl, rfl, congrArg AV.b (hg.1.trans hg.2.symm), rfl, trivial⟩
      · exact ⟨rfl, rfl, rfl, rfl, rfl, rfl, rfl, rfl, rfl, by rw [shK_live hv, hc1 1]; exact st_setDN (shK c S L 1) _ _ 1 (by decide) (put (S 1) name (partB name data 1)).1 hl.symm, rfl, rfl, by rw [tdK_step (i := 1) (c 1).2 (if_pos hv), hc2 1]; exact td_set (tdK c L 1) 1 (by decide) ⟨⟨#[]⟩, (put (S 1) name (partB name data 1)).2⟩, trivial⟩
      · show (5 - ((2 : Nat) : Int)).toNat < (5 - ((1 : Nat) : Int)).toNat
        decide
  · refine aW ?_
    refine brk.mk (fun hc => ?_) (fun hc => ?_)
    rotate_left
    · exact absurd hc (by decide)
    refine aW ?_
    refine brk.mk (fun hz => ?_) (fun hz => ?_)
    · have hd0 := dead_of (i := 2) hz
      refine aW ?_
      refine Exists.intro 2 (And.intro rfl (And.intro (by decide) ?_))
      refine aW ?_
      refine Lq.nx _ (Le.trans (Le.lev (t := 8) rfl (Lev.of (AVle.trans AVle.tt (AVle.of_eq (congrArg AV.b (gn_dead hd0).symm))))) (Le.mk ?_ ?_ rfl rfl)) ⟨3, by decide, rfl⟩ ?_
      · exact ⟨rfl, rfl, rfl, rfl, rfl, rfl, rfl, trivial⟩
      · exact ⟨rfl, rfl, rfl, rfl, rfl, rfl, rfl, rfl, rfl, by rw [shK_dead hd0, lf_dead hd0]; rfl, rfl, rfl, by rw [tdK_step (i := 2) ⟨⟨#[]⟩, 17⟩ (if_neg (by rw [hd0]; decide))]; exact td_e c L 2 (by decide) 17, trivial⟩
      · show (5 - ((3 : Nat) : Int)).toNat < (5 - ((2 : Nat) : Int)).toNat
        decide
    have hv := live_of (i := 2) hz
    have hwr := lf_le (i := 2) hL1 hL2
    have hg := gn_live hv
    refine aW ?_
    refine brk.mk (fun hp => ?_) (fun hp => ?_)
    · refine aW ?_
      have hl := lf_dec hv (of_decide_eq_true hp)
      have hw : IntKind.i64.wrap (lf L 2 - 1) = lf L 3 := by rw [wrap_int (by have := of_decide_eq_true hp; omega) (by omega)]; exact hl.symm
      refine Exists.intro 2 (And.intro rfl (And.intro (by decide) ?_))
      refine XCall.bodyw is69 rfl ?_
      unfold m69
      refine aW ?_
      refine XCall.lenv (write35 name data 2 hn100 hd (by decide)) rfl ?_
      refine And.intro rfl (And.intro (AVles.refl _) ?_)
      refine And.intro rfl ?_
      refine And.intro rfl ?_
      refine aN ?_
      refine XCall.givv (put13 (S 2) name (partB name data 2) (hS 2 (by decide)) (hpb 2 (by decide))) ?_
      refine And.intro rfl (And.intro (AVles.cons (AVle.of_eq (congrArg sAV (shK_at (c := c) (S := S) (L := L) (i := 2)))) (AVles.refl _)) ?_)
      refine aN ?_
      refine aW ?_
      refine Rq.rt ?_
      refine Exists.intro 2 (And.intro rfl (And.intro (by decide) ?_))
      refine Exists.intro 2 (And.intro rfl (And.intro (by decide) ?_))
      refine aW ?_
      refine Lq.nx _ (Le.mk ?_ ?_ rfl rfl) ⟨3, by decide, rfl⟩ ?_
      · exact ⟨rfl, rfl, rfl, rfl, rfl, congrArg AV.b (hg.1.trans hg.2.symm), rfl, trivial⟩
      · exact ⟨rfl, rfl, rfl, rfl, rfl, rfl, rfl, rfl, rfl, by rw [shK_live hv, hc1 2]; exact st_setD (shK c S L 2) _ _ 2 (by decide) (put (S 2) name (partB name data 2)).1 hw rfl, rfl, rfl, by rw [tdK_step (i := 2) (c 2).2 (if_pos hv), hc2 2]; exact td_set (tdK c L 2) 2 (by decide) ⟨⟨#[]⟩, (put (S 2) name (partB name data 2)).2⟩, trivial⟩
      · show (5 - ((3 : Nat) : Int)).toNat < (5 - ((2 : Nat) : Int)).toNat
        decide
    · refine aW ?_
      have hl := lf_neg hv (of_decide_eq_false hp)
      refine Exists.intro 2 (And.intro rfl (And.intro (by decide) ?_))
      refine XCall.bodyw is69 rfl ?_
      unfold m69
      refine aW ?_
      refine XCall.lenv (write35 name data 2 hn100 hd (by decide)) rfl ?_
      refine And.intro rfl (And.intro (AVles.refl _) ?_)
      refine And.intro rfl ?_
      refine And.intro rfl ?_
      refine aN ?_
      refine XCall.givv (put13 (S 2) name (partB name data 2) (hS 2 (by decide)) (hpb 2 (by decide))) ?_
      refine And.intro rfl (And.intro (AVles.cons (AVle.of_eq (congrArg sAV (shK_at (c := c) (S := S) (L := L) (i := 2)))) (AVles.refl _)) ?_)
      refine aN ?_
      refine aW ?_
      refine Rq.rt ?_
      refine Exists.intro 2 (And.intro rfl (And.intro (by decide) ?_))
      refine Exists.intro 2 (And.intro rfl (And.intro (by decide) ?_))
      refine aW ?_
      refine Lq.nx _ (Le.mk ?_ ?_ rfl rfl) ⟨3, by decide, rfl⟩ ?_
      · exact ⟨rfl, rfl, rfl, rfl, rfl, congrArg AV.b (hg.1.trans hg.2.symm), rfl, trivial⟩
      · exact ⟨rfl, rfl, rfl, rfl, rfl, rfl, rfl, rfl, rfl, by rw [shK_live hv, hc1 2]; exact st_setDN (shK c S L 2) _ _ 2 (by decide) (put (S 2) name (partB name data 2)).1 hl.symm, rfl, rfl, by rw [tdK_step (i := 2) (c 2).2 (if_pos hv), hc2 2]; exact td_set (tdK c L 2) 2 (by decide) ⟨⟨#[]⟩, (put (S 2) name (partB name data 2)).2⟩, trivial⟩
      · show (5 - ((3 : Nat) : Int)).toNat < (5 - ((2 : Nat) : Int)).toNat
        decide
  · refine aW ?_
    refine brk.mk (fun hc => ?_) (fun hc => ?_)
    rotate_left
    · exact absurd hc (by decide)
    refine aW ?_
    refine brk.mk (fun hz => ?_) (fun hz => ?_)
    · have hd0 := dead_of (i := 3) hz
      refine aW ?_
      refine Exists.intro 3 (And.intro rfl (And.intro (by decide) ?_))
      refine aW ?_
      refine Lq.nx _ (Le.trans (Le.lev (t := 8) rfl (Lev.of (AVle.trans AVle.tt (AVle.of_eq (congrArg AV.b (gn_dead hd0).symm))))) (Le.mk ?_ ?_ rfl rfl)) ⟨4, by decide, rfl⟩ ?_
      · exact ⟨rfl, rfl, rfl, rfl, rfl, rfl, rfl, trivial⟩
      · exact ⟨rfl, rfl, rfl, rfl, rfl, rfl, rfl, rfl, rfl, by rw [shK_dead hd0, lf_dead hd0]; rfl, rfl, rfl, by rw [tdK_step (i := 3) ⟨⟨#[]⟩, 17⟩ (if_neg (by rw [hd0]; decide))]; exact td_e c L 3 (by decide) 17, trivial⟩
      · show (5 - ((4 : Nat) : Int)).toNat < (5 - ((3 : Nat) : Int)).toNat
        decide
    have hv := live_of (i := 3) hz
    have hwr := lf_le (i := 3) hL1 hL2
    have hg := gn_live hv
    refine aW ?_
    refine brk.mk (fun hp => ?_) (fun hp => ?_)
    · refine aW ?_
      have hl := lf_dec hv (of_decide_eq_true hp)
      have hw : IntKind.i64.wrap (lf L 3 - 1) = lf L 4 := by rw [wrap_int (by have := of_decide_eq_true hp; omega) (by omega)]; exact hl.symm
      refine Exists.intro 3 (And.intro rfl (And.intro (by decide) ?_))
      refine XCall.bodyw is69 rfl ?_
      unfold m69
      refine aW ?_
      refine XCall.lenv (write35 name data 3 hn100 hd (by decide)) rfl ?_
      refine And.intro rfl (And.intro (AVles.refl _) ?_)
      refine And.intro rfl ?_
      refine And.intro rfl ?_
      refine aN ?_
      refine XCall.givv (put13 (S 3) name (partB name data 3) (hS 3 (by decide)) (hpb 3 (by decide))) ?_
      refine And.intro rfl (And.intro (AVles.cons (AVle.of_eq (congrArg sAV (shK_at (c := c) (S := S) (L := L) (i := 3)))) (AVles.refl _)) ?_)
      refine aN ?_
      refine aW ?_
      refine Rq.rt ?_
      refine Exists.intro 3 (And.intro rfl (And.intro (by decide) ?_))
      refine Exists.intro 3 (And.intro rfl (And.intro (by decide) ?_))
      refine aW ?_
      refine Lq.nx _ (Le.mk ?_ ?_ rfl rfl) ⟨4, by decide, rfl⟩ ?_
      · exact ⟨rfl, rfl, rfl, rfl, rfl, congrArg AV.b (hg.1.trans hg.2.symm), rfl, trivial⟩
      · exact ⟨rfl, rfl, rfl, rfl, rfl, rfl, rfl, rfl, rfl, by rw [shK_live hv, hc1 3]; exact st_setD (shK c S L 3) _ _ 3 (by decide) (put (S 3) name (partB name data 3)).1 hw rfl, rfl, rfl, by rw [tdK_step (i := 3) (c 3).2 (if_pos hv), hc2 3]; exact td_set (tdK c L 3) 3 (by decide) ⟨⟨#[]⟩, (put (S 3) name (partB name data 3)).2⟩, trivial⟩
      · show (5 - ((4 : Nat) : Int)).toNat < (5 - ((3 : Nat) : Int)).toNat
        decide
    · refine aW ?_
      have hl := lf_neg hv (of_decide_eq_false hp)
      refine Exists.intro 3 (And.intro rfl (And.intro (by decide) ?_))
      refine XCall.bodyw is69 rfl ?_
      unfold m69
      refine aW ?_
      refine XCall.lenv (write35 name data 3 hn100 hd (by decide)) rfl ?_
      refine And.intro rfl (And.intro (AVles.refl _) ?_)
      refine And.intro rfl ?_
      refine And.intro rfl ?_
      refine aN ?_
      refine XCall.givv (put13 (S 3) name (partB name data 3) (hS 3 (by decide)) (hpb 3 (by decide))) ?_
      refine And.intro rfl (And.intro (AVles.cons (AVle.of_eq (congrArg sAV (shK_at (c := c) (S := S) (L := L) (i := 3)))) (AVles.refl _)) ?_)
      refine aN ?_
      refine aW ?_
      refine Rq.rt ?_
      refine Exists.intro 3 (And.intro rfl (And.intro (by decide) ?_))
      refine Exists.intro 3 (And.intro rfl (And.intro (by decide) ?_))
      refine aW ?_
      refine Lq.nx _ (Le.mk ?_ ?_ rfl rfl) ⟨4, by decide, rfl⟩ ?_
      · exact ⟨rfl, rfl, rfl, rfl, rfl, congrArg AV.b (hg.1.trans hg.2.symm), rfl, trivial⟩
      · exact ⟨rfl, rfl, rfl, rfl, rfl, rfl, rfl, rfl, rfl, by rw [shK_live hv, hc1 3]; exact st_setDN (shK c S L 3) _ _ 3 (by decide) (put (S 3) name (partB name data 3)).1 hl.symm, rfl, rfl, by rw [tdK_step (i := 3) (c 3).2 (if_pos hv), hc2 3]; exact td_set (tdK c L 3) 3 (by decide) ⟨⟨#[]⟩, (put (S 3) name (partB name data 3)).2⟩, trivial⟩
      · show (5 - ((4 : Nat) : Int)).toNat < (5 - ((3 : Nat) : Int)).toNat
        decide
  · refine aW ?_
    refine brk.mk (fun hc => ?_) (fun hc => ?_)
    rotate_left
    · exact absurd hc (by decide)
    refine aW ?_
    refine brk.mk (fun hz => ?_) (fun hz => ?_)
    · have hd0 := dead_of (i := 4) hz
      refine aW ?_
      refine Exists.intro 4 (And.intro rfl (And.intro (by decide) ?_))
      refine aW ?_
      refine Lq.nx _ (Le.trans (Le.lev (t := 8) rfl (Lev.of (AVle.trans AVle.tt (AVle.of_eq (congrArg AV.b (gn_dead hd0).symm))))) (Le.mk ?_ ?_ rfl rfl)) ⟨5, by decide, rfl⟩ ?_
      · exact ⟨rfl, rfl, rfl, rfl, rfl, rfl, rfl, trivial⟩
      · exact ⟨rfl, rfl, rfl, rfl, rfl, rfl, rfl, rfl, rfl, by rw [shK_dead hd0, lf_dead hd0]; rfl, rfl, rfl, by rw [tdK_step (i := 4) ⟨⟨#[]⟩, 17⟩ (if_neg (by rw [hd0]; decide))]; exact td_e c L 4 (by decide) 17, trivial⟩
      · show (5 - ((5 : Nat) : Int)).toNat < (5 - ((4 : Nat) : Int)).toNat
        decide
    have hv := live_of (i := 4) hz
    have hwr := lf_le (i := 4) hL1 hL2
    have hg := gn_live hv
    refine aW ?_
    refine brk.mk (fun hp => ?_) (fun hp => ?_)
    · refine aW ?_
      have hl := lf_dec hv (of_decide_eq_true hp)
      have hw : IntKind.i64.wrap (lf L 4 - 1) = lf L 5 := by rw [wrap_int (by have := of_decide_eq_true hp; omega) (by omega)]; exact hl.symm
      refine Exists.intro 4 (And.intro rfl (And.intro (by decide) ?_))
      refine XCall.bodyw is69 rfl ?_
      unfold m69
      refine aW ?_
      refine XCall.lenv (write35 name data 4 hn100 hd (by decide)) rfl ?_
      refine And.intro rfl (And.intro (AVles.refl _) ?_)
      refine And.intro rfl ?_
      refine And.intro rfl ?_
      refine aN ?_
      refine XCall.givv (put13 (S 4) name (partB name data 4) (hS 4 (by decide)) (hpb 4 (by decide))) ?_
      refine And.intro rfl (And.intro (AVles.cons (AVle.of_eq (congrArg sAV (shK_at (c := c) (S := S) (L := L) (i := 4)))) (AVles.refl _)) ?_)
      refine aN ?_
      refine aW ?_
      refine Rq.rt ?_
      refine Exists.intro 4 (And.intro rfl (And.intro (by decide) ?_))
      refine Exists.intro 4 (And.intro rfl (And.intro (by decide) ?_))
      refine aW ?_
      refine Lq.nx _ (Le.mk ?_ ?_ rfl rfl) ⟨5, by decide, rfl⟩ ?_
      · exact ⟨rfl, rfl, rfl, rfl, rfl, congrArg AV.b (hg.1.trans hg.2.symm), rfl, trivial⟩
      · exact ⟨rfl, rfl, rfl, rfl, rfl, rfl, rfl, rfl, rfl, by rw [shK_live hv, hc1 4]; exact st_setD (shK c S L 4) _ _ 4 (by decide) (put (S 4) name (partB name data 4)).1 hw rfl, rfl, rfl, by rw [tdK_step (i := 4) (c 4).2 (if_pos hv), hc2 4]; exact td_set (tdK c L 4) 4 (by decide) ⟨⟨#[]⟩, (put (S 4) name (partB name data 4)).2⟩, trivial⟩
      · show (5 - ((5 : Nat) : Int)).toNat < (5 - ((4 : Nat) : Int)).toNat
        decide
    · refine aW ?_
      have hl := lf_neg hv (of_decide_eq_false hp)
      refine Exists.intro 4 (And.intro rfl (And.intro (by decide) ?_))
      refine XCall.bodyw is69 rfl ?_
      unfold m69
      refine aW ?_
      refine XCall.lenv (write35 name data 4 hn100 hd (by decide)) rfl ?_
      refine And.intro rfl (And.intro (AVles.refl _) ?_)
      refine And.intro rfl ?_
      refine And.intro rfl ?_
      refine aN ?_
      refine XCall.givv (put13 (S 4) name (partB name data 4) (hS 4 (by decide)) (hpb 4 (by decide))) ?_
      refine And.intro rfl (And.intro (AVles.cons (AVle.of_eq (congrArg sAV (shK_at (c := c) (S := S) (L := L) (i := 4)))) (AVles.refl _)) ?_)
      refine aN ?_
      refine aW ?_
      refine Rq.rt ?_
      refine Exists.intro 4 (And.intro rfl (And.intro (by decide) ?_))
      refine Exists.intro 4 (And.intro rfl (And.intro (by decide) ?_))
      refine aW ?_
      refine Lq.nx _ (Le.mk ?_ ?_ rfl rfl) ⟨5, by decide, rfl⟩ ?_
      · exact ⟨rfl, rfl, rfl, rfl, rfl, congrArg AV.b (hg.1.trans hg.2.symm), rfl, trivial⟩
      · exact ⟨rfl, rfl, rfl, rfl, rfl, rfl, rfl, rfl, rfl, by rw [shK_live hv, hc1 4]; exact st_setDN (shK c S L 4) _ _ 4 (by decide) (put (S 4) name (partB name data 4)).1 hl.symm, rfl, rfl, by rw [tdK_step (i := 4) (c 4).2 (if_pos hv), hc2 4]; exact td_set (tdK c L 4) 4 (by decide) ⟨⟨#[]⟩, (put (S 4) name (partB name data 4)).2⟩, trivial⟩
      · show (5 - ((5 : Nat) : Int)).toNat < (5 - ((4 : Nat) : Int)).toNat
        decide
  · refine aW ?_
    refine brk.mk (fun hc => ?_) (fun hc => ?_)
    · exact absurd hc (by decide)
    refine aW ?_
    refine And.intro rfl ?_
    refine aN ?_
    refine aW ?_
    refine Rq.rt ?_
    refine aN ?_
    refine aW ?_
    refine XCall.lenv (first52 (tdK c L 5) 0) rfl ?_
    refine And.intro rfl (And.intro (AVles.refl _) ?_)
    refine And.intro rfl ?_
    refine aN ?_
    refine aW ?_
    refine Rq.rt ?_
    refine aN ?_
    refine aW ?_
    refine Rq.rt ?_
    refine And.intro rfl ?_
    exact AVle.refl _
end Go.Proofs.T

namespace Go.Proofs.T
open Go Go.Hb

def fr : Nat → Sh := fun _ => sh0
theorem nils_o : AVle .nils (oAV []) := AVle.nils 4 _
theorem nils_f : AVle .nils (fAV []) := AVle.nils 1 _
theorem fresh12 : Pure Tryz.prog 12 [] (fun r => r = stA fr (-1)) := by
  refine Pure.weak (Post := fun v => AVle v (stA fr (-1))) (Pure.of (XCall.bodyw is12 rfl ?_)) fun r h => ⟨_, rfl, h⟩
  unfold m12
  refine aW ?_
  refine Rq.rt ?_
  refine And.intro rfl ?_
  exact AVle.agg (AVles.cons nils_o (AVles.cons nils_f (AVles.cons nils_o (AVles.cons nils_f (AVles.cons nils_o (AVles.cons nils_f (AVles.cons nils_o (AVles.cons nils_f (AVles.cons nils_o (AVles.cons nils_f (AVles.refl _)))))))))))

/-- Write into a fresh store. -/
theorem write_fresh {name data : ByteArray} (hn : Named name) (hd : data.size ≤ 500) : ∃ S', writeF fr (-1) name data = (S', -1, 0) ∧ ∀ j, j < 5 → One name (partB name data j) (S' j) := by
  have hp : ∀ j, j < 5 → (partB name data j).size ≤ 65536 := fun j hj => by
    have h1 := decB_size data.size (by omega)
    have h2 := decB_size (j + 1) (by omega)
    have := rowG_le (partL name data j) 200 (fun s hs => by
      unfold partL seven at hs
      simp only [List.mem_cons, List.not_mem_nil, or_false] at hs
      rcases hs with rfl | rfl | rfl | rfl | rfl | rfl | rfl
      · show 4 ≤ _; decide
      · have := hn.2; omega
      · omega
      · omega
      · rw [rawB_size]; decide
      · rw [rawB_size]; decide
      · rw [cutF_size]; unfold rowsN; omega) (by decide)
    have e : (partL name data j).length = 7 := rfl
    rw [e] at this
    unfold partB
    omega
  have hl : lookF name data.size = 0 := by
    unfold lookF
    have := hn.1
    have := hn.2
    rw [if_neg (by omega), if_neg (by omega)]
  have hc : ∀ j, j < 5 → One name (partB name data j) (putC fr name (partB name data) j).1 ∧ (putC fr name (partB name data) j).2 = ⟨⟨#[]⟩, 0⟩ := fun j hj => by
    have := put_first hn (hp j hj)
    exact ⟨this.1, congrArg (fun e => (⟨⟨#[]⟩, e⟩ : Td)) this.2⟩
  refine ⟨shK (putC fr name (partB name data)) fr (-1) 5, ?_, fun j hj => by rw [shK_neg hj]; exact (hc j hj).1⟩
  unfold writeF
  rw [if_neg (fun h => h hl), lf_neg1]
  refine congrArg (fun e => (shK (putC fr name (partB name data)) fr (-1) 5, (-1 : Int), e)) ?_
  have e0 : ∀ j, j < 5 → (tdK (putC fr name (partB name data)) (-1) 5 j).e = 0 := fun j hj => by rw [tdK_neg hj, (hc j hj).2]
  generalize tdK (putC fr name (partB name data)) (-1) 5 = T at *
  simp only [firstF, Nat.sub_zero]
  rw [if_neg (fun h => h.1 (e0 0 (by decide))), if_neg (fun h => h.1 (e0 1 (by decide))), if_neg (fun h => h.1 (e0 2 (by decide))), if_neg (fun h => h.1 (e0 3 (by decide))), if_neg (fun h => h.1 (e0 4 (by decide)))]
theorem part_small {name data : ByteArray} (hn : Named name) (hd : data.size ≤ 500) (j : Nat) (hj : j < 5) : (partB name data j).size ≤ 65536 := by
  have h1 := decB_size data.size (by omega)
  have h2 := decB_size (j + 1) (by omega)
  have := rowG_le (partL name data j) 200 (fun s hs => by
    unfold partL seven at hs
    simp only [List.mem_cons, List.not_mem_nil, or_false] at hs
    rcases hs with rfl | rfl | rfl | rfl | rfl | rfl | rfl
    · show 4 ≤ _; decide
    · have := hn.2; omega
    · omega
    · omega
    · rw [rawB_size]; decide
    · rw [rawB_size]; decide
    · rw [cutF_size]; unfold rowsN; omega) (by decide)
  have e : (partL name data j).length = 7 := rfl
  rw [e] at this
  unfold partB
  omega
theorem get_part {name data : ByteArray} {S : Nat → Sh} (hn : Named name) (hd : data.size ≤ 500) {j : Nat} (hj : j < 5) (h : One name (partB name data j) (S j)) : tdK (getC S name) (-1) 5 j = ⟨partB name data j, 0⟩ := by
  rw [tdK_neg hj]
  unfold getC
  rw [get_one h hn (part_small hn hd j hj)]
theorem get_none {name : ByteArray} {S : Nat → Sh} (hn : Named name) {j : Nat} (hj : j < 5) (h : S j = sh0) : tdK (getC S name) (-1) 5 j = ⟨⟨#[]⟩, 9⟩ := by
  rw [tdK_neg hj]
  unfold getC
  rw [h, get_new hn]
theorem read_none {name : ByteArray} (hn : Named name) : readF fr (-1) name = (⟨#[]⟩, 9) := by
  have hT : ∀ j, j < 5 → tdK (getC fr name) (-1) 5 j = ⟨⟨#[]⟩, 9⟩ := fun j hj => get_none hn hj rfl
  have he : ∀ j, j < 5 → (tdK (getC fr name) (-1) 5 j).e ≠ 0 := fun j hj => by rw [hT j hj]; decide
  unfold readF
  generalize tdK (getC fr name) (-1) 5 = T at *
  have hp : partsF name T 5 = [] := by
    simp only [partsF]
    rw [add_no (he 0 (by decide)), add_no (he 1 (by decide)), add_no (he 2 (by decide)), add_no (he 3 (by decide)), add_no (he 4 (by decide))]
    rfl
  rw [hp, in1_none (by decide)]
  show ((⟨#[]⟩ : ByteArray), lostF T (gn (-1) 5)) = _
  have hn5 : noneF T 5 = 5 := by
    simp only [noneF]
    rw [hT 0 (by decide), hT 1 (by decide), hT 2 (by decide), hT 3 (by decide), hT 4 (by decide)]
    rfl
  unfold lostF
  rw [gn_neg, if_neg (by decide), hn5, if_pos (by decide)]
end Go.Proofs.T

namespace Go.Proofs.T
open Go Go.Hb

def nmA : ByteArray := ⟨#[97]⟩
def byA : ByteArray := ⟨#[115, 111, 109, 101, 32, 98, 121, 116, 101, 115]⟩
def obX : Ob := ⟨nmA, ⟨#[120]⟩, ⟨#[]⟩, false⟩
def bentA (S : Nat → Sh) : Nat → Sh := fun j => if j = 1 then sh0 else if j = 4 then ⟨[obX], []⟩ else S j
theorem named_A : Named nmA := by decide
theorem read_alive {S : Nat → Sh} (hS : ∀ j, j < 5 → One nmA (partB nmA byA j) (S j)) : readF (bentA S) (-1) nmA = (byA, 0) ∧ (∀ j, j < 5 → (tdK (getC (bentA S) nmA) (-1) 5 j).d.size ≤ 1099511627776) ∧ ∀ j, j < 5 → Small (bentA S j) := by
  have hd : byA.size ≤ 500 := by decide
  have g : ∀ j, j < 5 → j ≠ 1 → j ≠ 4 → tdK (getC (bentA S) nmA) (-1) 5 j = ⟨partB nmA byA j, 0⟩ := fun j hj h1 h4 => get_part named_A hd hj (by
    have e : bentA S j = S j := by unfold bentA; rw [if_neg h1, if_neg h4]
    rw [e]
    exact hS j hj)
  have g1 : tdK (getC (bentA S) nmA) (-1) 5 1 = ⟨⟨#[]⟩, 9⟩ := get_none named_A (by decide) rfl
  have o4 : One nmA ⟨#[120]⟩ (bentA S 4) := ⟨⟨#[]⟩, false, rfl, by decide, fun _ => rfl⟩
  have g4 : tdK (getC (bentA S) nmA) (-1) 5 4 = ⟨⟨#[120]⟩, 0⟩ := by
    rw [tdK_neg (by decide)]
    unfold getC
    rw [get_one o4 named_A (by decide)]
  refine ⟨?_, fun j hj => ?_, fun j hj => ?_⟩
  · unfold readF
    generalize tdK (getC (bentA S) nmA) (-1) 5 = T at *
    have hl : partsF nmA T 5 = pOf byA 0 :: pOf byA 2 :: pOf byA 3 :: addF nmA T 4 := by
      simp only [partsF]
      rw [add_yes (by decide) (by decide) (by decide) (g 0 (by decide) (by decide) (by decide)), add_no (k := 1) (by rw [g1]; decide), add_yes (by decide) (by decide) (by decide) (g 2 (by decide) (by decide) (by decide)), add_yes (by decide) (by decide) (by decide) (g 3 (by decide) (by decide) (by decide))]
      rfl
    rw [hl, in1_found (data := byA) (p := 0) (q := 2) (r := 3) (by decide) (by decide) (by decide) (by simp only [List.length_cons]; omega) rfl rfl rfl]
    rfl
  · by_cases h1 : j = 1
    · rw [h1, g1]; exact Nat.zero_le _
    · by_cases h4 : j = 4
      · rw [h4, g4]; show 1 ≤ _; omega
      · rw [g j hj h1 h4]
        have := part_small named_A hd j hj
        show (partB nmA byA j).size ≤ _
        omega
  · unfold bentA
    split
    · exact small0
    · split
      · exact ⟨by show 1 ≤ _; omega, Nat.zero_le _⟩
      · exact small_one (hS j hj)
theorem look_A : lookF nmA 0 = 0 := by decide
theorem obx_of : AVle (.fs 1 4 (listCell 4 [.s nmA, .s ⟨#[120]⟩, .s ⟨#[]⟩, .b false])) (oAV [obX]) := AVle.fs fun i j hi hj => by
  obtain rfl : i = 0 := by omega
  obtain rfl | rfl | rfl | rfl : j = 0 ∨ j = 1 ∨ j = 2 ∨ j = 3 := by omega
  all_goals rfl

set_option maxHeartbeats 1000000 in
theorem alive_core (S : Nat → Sh) (hS : ∀ j, j < 5 → One nmA (partB nmA byA j) (S j)) (hw : Pure Tryz.prog 13 [stA fr (-1), .s nmA, .s byA] (fun r => r = st2 (S, -1, 0)))
    (S3 S4 : Nat → Sh) (L3 L4 : Int) (hr : Pure Tryz.prog 14 [stA (bentA S) (-1), .s nmA] (fun r => r = st3 S3 L3 (byA, 0))) (hn : Pure Tryz.prog 14 [stA fr (-1), .s nmA] (fun r => r = st3 S4 L4 (⟨#[]⟩, 9))) :
    Pure Tryz.prog 10 [] (fun r => r = .b true) := by
  refine Pure.weak (Post := fun v => AVle v (.b true)) (Pure.of (XCall.bodyw is10 rfl ?_)) fun r h => ⟨_, rfl, h⟩
  unfold m10
  refine aW ?_
  refine XCall.givv fresh12 ?_
  refine And.intro rfl (And.intro (AVles.refl _) ?_)
  refine aN ?_
  refine XCall.givv hw ?_
  refine And.intro rfl (And.intro (AVles.refl _) ?_)
  refine aN ?_
  refine aW ?_
  refine brk.mk (fun hz => ?_) (fun hz => ?_)
  · exact absurd hz (by decide)
  refine aW ?_
  refine Exists.intro 1 (And.intro rfl (And.intro (by decide) ?_))
  refine Exists.intro 4 (And.intro rfl (And.intro (by decide) ?_))
  refine aW ?_
  refine XCall.givv hr ?_
  refine And.intro rfl (And.intro (AVles.cons (AVle.agg (AVles.cons (AVle.refl _) (AVles.cons (AVle.refl _) (AVles.cons nils_o (AVles.cons nils_f (AVles.cons (AVle.refl _) (AVles.cons (AVle.refl _) (AVles.cons (AVle.refl _) (AVles.cons (AVle.refl _) (AVles.cons obx_of (AVles.cons nils_f (AVles.refl _)))))))))))) (AVles.refl _)) ?_)
  refine aN ?_
  refine aW ?_
  refine XCall.givv fresh12 ?_
  refine And.intro rfl (And.intro (AVles.refl _) ?_)
  refine aN ?_
  refine XCall.givv hn ?_
  refine And.intro rfl (And.intro (AVles.refl _) ?_)
  refine aN ?_
  refine aW ?_
  refine brk.mk (fun hb => ?_) (fun hb => ?_)
  rotate_left
  · exact absurd (rfl : byA = byA) (se_f hb)
  refine brk.mk (fun hb2 => ?_) (fun hb2 => ?_)
  rotate_left
  · cases hb2
  refine aW ?_
  refine Rq.rt ?_
  exact And.intro rfl (AVle.of_eq rfl)
theorem alive10 : Pure Tryz.prog 10 [] (fun r => r = .b true) := by
  obtain ⟨S, hw, hS⟩ := write_fresh (data := byA) named_A (by decide)
  have w := write13 fr (-1) nmA byA (fun _ _ => small0) (by decide) (by decide)
  rw [hw] at w
  obtain ⟨h1, h2, h3⟩ := read_alive hS
  have r := read14 (bentA S) (-1) nmA look_A h3 h2 (by decide) (by decide)
  rw [h1] at r
  have hT : ∀ j, j < 5 → (tdK (getC fr nmA) (-1) 5 j).d.size ≤ 1099511627776 := fun j hj => by
    rw [get_none named_A hj rfl]
    exact Nat.zero_le _
  have n := read14 fr (-1) nmA look_A (fun _ _ => small0) hT (by decide) (by decide)
  rw [read_none named_A] at n
  exact alive_core S hS w _ _ _ _ r n
end Go.Proofs.T

namespace Go.Proofs.T
open Go Go.Hb

set_option maxHeartbeats 4000000 in
theorem power_core (name data : ByteArray) (l : Int) (t : Nat) (hl0 : 0 ≤ l) (hl1 : l < 256) (ht : l.tmod 8 = (t : Int)) (ht7 : t < 8) (Sw Sv : Nat → Sh) (Lw E : Int) (q : ByteArray × Int) (Sr : Nat → Sh) (Lr : Int) (hn : Named name) (hd : data.size ≤ 500)
    (hw : Pure Tryz.prog 13 [stA fr (t : Int), .s name, .s data] (fun r => r = st2 (Sw, Lw, E))) (hv : Pure Tryz.prog 17 [stA fr (t : Int), .s name, .s data] (fun r => r = st2 (Sv, Lw, E)))
    (hr : Pure Tryz.prog 14 [stA Sw (-1), .s name] (fun r => r = st3 Sr Lr q))
    (hw1 : ∀ i, i < 5 → i < t → (Sw i).objs.length = 1) (hw0 : ∀ i, i < 5 → ¬ i < t → (Sw i).objs.length = 0)
    (hv1 : ∀ i, i < 5 → i < t → (Sv i).objs.length = 1 ∧ ((Sv i).objs.getD 0 ob0).data = data) (hv0 : ∀ i, i < 5 → ¬ i < t → (Sv i).objs.length = 0)
    (hL : Lw = if 5 ≤ t then (t : Int) - 5 else 0) (hE : E = if 5 ≤ t then 0 else 17) (hq3 : 3 ≤ t → q = (data, 0)) (hq0 : ¬ 3 ≤ t → q = (⟨#[]⟩, 9)) :
    Pure Tryz.prog 5 [.s name, .s data, .i .u8 l] (fun r => r = .b true) := by
  refine Pure.weak (Post := fun v => AVle v (.b true)) (Pure.of (XCall.bodyw is5 rfl ?_)) fun r h => ⟨_, rfl, h⟩
  have ht8 : (IntKind.i64.wrap l).tmod 8 = (t : Int) := by rw [wrap_int (by omega) (by omega), ht]
  unfold m5
  refine aW ?_
  refine XCall.lenv alive10 rfl ?_
  refine And.intro rfl (And.intro (AVles.refl _) ?_)
  refine aW ?_
  refine brk.mk (fun hz => ?_) (fun hz => ?_)
  · exact absurd hz (by decide)
  refine aW ?_
  refine brk.mk (fun h1 => ?_) (fun h1 => ?_)
  · have := of_decide_eq_true h1; have := hn.1; omega
  refine brk.mk (fun h2 => ?_) (fun h2 => ?_)
  · have := of_decide_eq_true h2; have := hn.2; omega
  refine aW ?_
  refine brk.mk (fun h3 => ?_) (fun h3 => ?_)
  · have := of_decide_eq_true h3; omega
  refine aW ?_
  refine XCall.givv fresh12 ?_
  refine And.intro rfl (And.intro (AVles.refl _) ?_)
  refine aN ?_
  refine aW ?_
  refine XCall.givv hw ?_
  refine And.intro rfl (And.intro (AVles.cons (AVle.agg (AVles.cons (AVle.refl _) (AVles.cons (AVle.refl _) (AVles.cons (AVle.refl _) (AVles.cons (AVle.refl _) (AVles.cons (AVle.refl _) (AVles.cons (AVle.refl _) (AVles.cons (AVle.refl _) (AVles.cons (AVle.refl _) (AVles.cons (AVle.refl _) (AVles.cons (AVle.refl _) (AVles.cons (AVle.of_eq (congrArg (AV.i .i64) ht8)) AVles.nil)))))))))))) (AVles.refl _)) ?_)
  refine aN ?_
  refine aW ?_
  refine XCall.givv hv ?_
  refine And.intro rfl (And.intro (AVles.cons (AVle.agg (AVles.cons (AVle.refl _) (AVles.cons (AVle.refl _) (AVles.cons (AVle.refl _) (AVles.cons (AVle.refl _) (AVles.cons (AVle.refl _) (AVles.cons (AVle.refl _) (AVles.cons (AVle.refl _) (AVles.cons (AVle.refl _) (AVles.cons (AVle.refl _) (AVles.cons (AVle.refl _) (AVles.cons (AVle.of_eq (congrArg (AV.i .i64) ht8)) AVles.nil)))))))))))) (AVles.refl _)) ?_)
  refine aN ?_
  refine aW ?_
  refine lpW.mk (fun σ => ∃ i : Nat, i ≤ 5 ∧ σ = ⟨[(0, .s name), (1, .s data), (7, .p 0 0), (8, .p 1 0), (9, .i .i64 E), (10, .p 2 0), (11, .i .i64 E), (52, .i .i64 ((i : Nat) : Int))], [(0, .lit (st11 fr (t : Int))), (1, .lit (st11 Sw Lw)), (2, .lit (st11 Sv Lw))], 3⟩) (fun σ => (5 - num 52 σ).toNat) ?_ ?_
  · refine ⟨_, Le.mk ?_ ?_ rfl rfl, 0, by decide, rfl⟩
    · exact ⟨rfl, rfl, rfl, rfl, rfl, rfl, rfl, rfl, trivial⟩
    · exact ⟨by rw [← ht8]; rfl, rfl, rfl, trivial⟩
  rintro σ' ⟨i, hi, rfl⟩
  obtain rfl | rfl | rfl | rfl | rfl | rfl : i = 0 ∨ i = 1 ∨ i = 2 ∨ i = 3 ∨ i = 4 ∨ i = 5 := by omega
  · refine aW ?_
    refine brk.mk (fun hc => ?_) (fun hc => ?_)
    rotate_left
    · exact absurd hc (by decide)
    refine aW ?_
    refine brk.mk (fun hq => ?_) (fun hq => ?_)
    · have hit : 0 < t := by have := of_decide_eq_true hq; omega
      have f1 := hw1 0 (by decide) hit
      have f2 := hv1 0 (by decide) hit
      refine aW ?_
      refine Exists.intro 0 (And.intro rfl (And.intro (by decide) ?_))
      refine brk.mk (fun h1 => ?_) (fun h1 => ?_)
      · have h1' : (((Sw 0).objs.length : Int) != 1) = true := h1
        rw [f1] at h1'; exact absurd h1' (by decide)
      refine Exists.intro 0 (And.intro rfl (And.intro (by decide) ?_))
      refine brk.mk (fun h2 => ?_) (fun h2 => ?_)
      · have h2' : (((Sv 0).objs.length : Int) != 1) = true := h2
        rw [f2.1] at h2'; exact absurd h2' (by decide)
      refine brk.mk (fun h3 => ?_) (fun h3 => ?_)
      rotate_left
      · exact absurd h3 (by decide)
      refine Exists.intro 0 (And.intro rfl (And.intro (by decide) ?_))
      refine Exists.intro 0 (And.intro rfl (And.intro (show 0 < (Sv 0).objs.length by rw [f2.1]; decide) ?_))
      refine aW ?_
      refine brk.mk (fun h4 => ?_) (fun h4 => ?_)
      · exact absurd f2.2 (sn_t h4)
      refine aW ?_
      refine Lq.nx _ (Le.mk ?_ ?_ rfl rfl) ⟨1, by decide, rfl⟩ ?_
      · exact ⟨rfl, rfl, rfl, rfl, rfl, rfl, rfl, rfl, trivial⟩
      · exact ⟨rfl, rfl, rfl, trivial⟩
      · show (5 - ((1 : Nat) : Int)).toNat < (5 - ((0 : Nat) : Int)).toNat
        decide
    · have hit : ¬ 0 < t := by have := of_decide_eq_false hq; omega
      have f1 := hw0 0 (by decide) hit
      have f2 := hv0 0 (by decide) hit
      refine aW ?_
      refine Exists.intro 0 (And.intro rfl (And.intro (by decide) ?_))
      refine brk.mk (fun h1 => ?_) (fun h1 => ?_)
      · have h1' : (((Sw 0).objs.length : Int) != 0) = true := h1
        rw [f1] at h1'; exact absurd h1' (by decide)
      refine Exists.intro 0 (And.intro rfl (And.intro (by decide) ?_))
      refine brk.mk (fun h2 => ?_) (fun h2 => ?_)
      · have h2' : (((Sv 0).objs.length : Int) != 0) = true := h2
        rw [f2] at h2'; exact absurd h2' (by decide)
      refine brk.mk (fun h3 => ?_) (fun h3 => ?_)
      · exact absurd h3 (by decide)
      refine aW ?_
      refine Lq.nx _ (Le.mk ?_ ?_ rfl rfl) ⟨1, by decide, rfl⟩ ?_
      · exact ⟨rfl, rfl, rfl, rfl, rfl, rfl, rfl, rfl, trivial⟩
      · exact ⟨rfl, rfl, rfl, trivial⟩
      · show (5 - ((1 : Nat) : Int)).toNat < (5 - ((0 : Nat) : Int)).toNat
        decide
  · refine aW ?_
    refine brk.mk (fun hc => ?_) (fun hc => ?_)
    rotate_left
    · exact absurd hc (by decide)
    refine aW ?_
    refine brk.mk (fun hq => ?_) (fun hq => ?_)
    · have hit : 1 < t := by have := of_decide_eq_true hq; omega
      have f1 := hw1 1 (by decide) hit
      have f2 := hv1 1 (by decide) hit
      refine aW ?_
      refine Exists.intro 1 (And.intro rfl (And.intro (by decide) ?_))
      refine brk.mk (fun h1 => ?_) (fun h1 => ?_)
      · have h1' : (((Sw 1).objs.length : Int) != 1) = true := h1
        rw [f1] at h1'; exact absurd h1' (by decide)
      refine Exists.intro 1 (And.intro rfl (And.intro (by decide) ?_))
      refine brk.mk (fun h2 => ?_) (fun h2 => ?_)
      · have h2' : (((Sv 1).objs.length : Int) != 1) = true := h2
        rw [f2.1] at h2'; exact absurd h2' (by decide)
      refine brk.mk (fun h3 => ?_) (fun h3 => ?_)
      rotate_left
      · exact absurd h3 (by decide)
      refine Exists.intro 1 (And.intro rfl (And.intro (by decide) ?_))
      refine Exists.intro 0 (And.intro rfl (And.intro (show 0 < (Sv 1).objs.length by rw [f2.1]; decide) ?_))
      refine aW ?_
      refine brk.mk (fun h4 => ?_) (fun h4 => ?_)
      · exact absurd f2.2 (sn_t h4)
      refine aW ?_
      refine Lq.nx _ (Le.mk ?_ ?_ rfl rfl) ⟨2, by decide, rfl⟩ ?_
      · exact ⟨rfl, rfl, rfl, rfl, rfl, rfl, rfl, rfl, trivial⟩
      · exact ⟨rfl, rfl, rfl, trivial⟩
      · show (5 - ((2 : Nat) : Int)).toNat < (5 - ((1 : Nat) : Int)).toNat
        decide
    · have hit : ¬ 1 < t := by have := of_decide_eq_false hq; omega
      have f1 := hw0 1 (by decide) hit
      have f2 := hv0 1 (by decide) hit
      refine aW ?_
      refine Exists.intro 1 (And.intro rfl (And.intro (by decide) ?_))
      refine brk.mk (fun h1 => ?_) (fun h1 => ?_)
      · have h1' : (((Sw 1).objs.length : Int) != 0) = true := h1
        rw [f1] at h1'; exact absurd h1' (by decide)
      refine Exists.intro 1 (And.intro rfl (And.intro (by decide) ?_))
      refine brk.mk (fun h2 => ?_) (fun h2 => ?_)
      · have h2' : (((Sv 1).objs.length : Int) != 0) = true := h2
        rw [f2] at h2'; exact absurd h2' (by decide)
      refine brk.mk (fun h3 => ?_) (fun h3 => ?_)
      · exact absurd h3 (by decide)
      refine aW ?_
      refine Lq.nx _ (Le.mk ?_ ?_ rfl rfl) ⟨2, by decide, rfl⟩ ?_
      · exact ⟨rfl, rfl, rfl, rfl, rfl, rfl, rfl, rfl, trivial⟩
      · exact ⟨rfl, rfl, rfl, trivial⟩
      · show (5 - ((2 : Nat) : Int)).toNat < (5 - ((1 : Nat) : Int)).toNat
        decide
  · refine aW ?_
    refine brk.mk (fun hc => ?_) (fun hc => ?_)
    rotate_left
    · exact absurd hc (by decide)
    refine aW ?_
    refine brk.mk (fun hq => ?_) (fun hq => ?_)
    · have hit : 2 < t := by have := of_decide_eq_true hq; omega
      have f1 := hw1 2 (by decide) hit
      have f2 := hv1 2 (by decide) hit
      refine aW ?_
      refine Exists.intro 2 (And.intro rfl (And.intro (by decide) ?_))
      refine brk.mk (fun h1 => ?_) (fun h1 => ?_)
      · have h1' : (((Sw 2).objs.length : Int) != 1) = true := h1
        rw [f1] at h1'; exact absurd h1' (by decide)
      refine Exists.intro 2 (And.intro rfl (And.intro (by decide) ?_))
      refine brk.mk (fun h2 => ?_) (fun h2 => ?_)
      · have h2' : (((Sv 2).objs.length : Int) != 1) = true := h2
        rw [f2.1] at h2'; exact absurd h2' (by decide)
      refine brk.mk (fun h3 => ?_) (fun h3 => ?_)
      rotate_left
      · exact absurd h3 (by decide)
      refine Exists.intro 2 (And.intro rfl (And.intro (by decide) ?_))
      refine Exists.intro 0 (And.intro rfl (And.intro (show 0 < (Sv 2).objs.length by rw [f2.1]; decide) ?_))
      refine aW ?_
      refine brk.mk (fun h4 => ?_) (fun h4 => ?_)
      · exact absurd f2.2 (sn_t h4)
      refine aW ?_
      refine Lq.nx _ (Le.mk ?_ ?_ rfl rfl) ⟨3, by decide, rfl⟩ ?_
      · exact ⟨rfl, rfl, rfl, rfl, rfl, rfl, rfl, rfl, trivial⟩
      · exact ⟨rfl, rfl, rfl, trivial⟩
      · show (5 - ((3 : Nat) : Int)).toNat < (5 - ((2 : Nat) : Int)).toNat
        decide
    · have hit : ¬ 2 < t := by have := of_decide_eq_false hq; omega
      have f1 := hw0 2 (by decide) hit
      have f2 := hv0 2 (by decide) hit
      refine aW ?_
      refine Exists.intro 2 (And.intro rfl (And.intro (by decide) ?_))
      refine brk.mk (fun h1 => ?_) (fun h1 => ?_)
      · have h1' : (((Sw 2).objs.length : Int) != 0) = true := h1
        rw [f1] at h1'; exact absurd h1' (by decide)
      refine Exists.intro 2 (And.intro rfl (And.intro (by decide) ?_))
      refine brk.mk (fun h2 => ?_) (fun h2 => ?_)
      · have h2' : (((Sv 2).objs.length : Int) != 0) = true := h2
        rw [f2] at h2'; exact absurd h2' (by decide)
      refine brk.mk (fun h3 => ?_) (fun h3 => ?_)
      · exact absurd h3 (by decide)
      refine aW ?_
      refine Lq.nx _ (Le.mk ?_ ?_ rfl rfl) ⟨3, by decide, rfl⟩ ?_
      · exact ⟨rfl, rfl, rfl, rfl, rfl, rfl, rfl, rfl, trivial⟩
      · exact ⟨rfl, rfl, rfl, trivial⟩
      · show (5 - ((3 : Nat) : Int)).toNat < (5 - ((2 : Nat) : Int)).toNat
        decide
  · refine aW ?_
    refine brk.mk (fun hc => ?_) (fun hc => ?_)
    rotate_left
    · exact absurd hc (by decide)
    refine aW ?_
    refine brk.mk (fun hq => ?_) (fun hq => ?_)
    · have hit : 3 < t := by have := of_decide_eq_true hq; omega
      have f1 := hw1 3 (by decide) hit
      have f2 := hv1 3 (by decide) hit
      refine aW ?_
      refine Exists.intro 3 (And.intro rfl (And.intro (by decide) ?_))
      refine brk.mk (fun h1 => ?_) (fun h1 => ?_)
      · have h1' : (((Sw 3).objs.length : Int) != 1) = true := h1
        rw [f1] at h1'; exact absurd h1' (by decide)
      refine Exists.intro 3 (And.intro rfl (And.intro (by decide) ?_))
      refine brk.mk (fun h2 => ?_) (fun h2 => ?_)
      · have h2' : (((Sv 3).objs.length : Int) != 1) = true := h2
        rw [f2.1] at h2'; exact absurd h2' (by decide)
      refine brk.mk (fun h3 => ?_) (fun h3 => ?_)
      rotate_left
      · exact absurd h3 (by decide)
      refine Exists.intro 3 (And.intro rfl (And.intro (by decide) ?_))
      refine Exists.intro 0 (And.intro rfl (And.intro (show 0 < (Sv 3).objs.length by rw [f2.1]; decide) ?_))
      refine aW ?_
      refine brk.mk (fun h4 => ?_) (fun h4 => ?_)
      · exact absurd f2.2 (sn_t h4)
      refine aW ?_
      refine Lq.nx _ (Le.mk ?_ ?_ rfl rfl) ⟨4, by decide, rfl⟩ ?_
      · exact ⟨rfl, rfl, rfl, rfl, rfl, rfl, rfl, rfl, trivial⟩
      · exact ⟨rfl, rfl, rfl, trivial⟩
      · show (5 - ((4 : Nat) : Int)).toNat < (5 - ((3 : Nat) : Int)).toNat
        decide
    · have hit : ¬ 3 < t := by have := of_decide_eq_false hq; omega
      have f1 := hw0 3 (by decide) hit
      have f2 := hv0 3 (by decide) hit
      refine aW ?_
      refine Exists.intro 3 (And.intro rfl (And.intro (by decide) ?_))
      refine brk.mk (fun h1 => ?_) (fun h1 => ?_)
      · have h1' : (((Sw 3).objs.length : Int) != 0) = true := h1
        rw [f1] at h1'; exact absurd h1' (by decide)
      refine Exists.intro 3 (And.intro rfl (And.intro (by decide) ?_))
      refine brk.mk (fun h2 => ?_) (fun h2 => ?_)
      · have h2' : (((Sv 3).objs.length : Int) != 0) = true := h2
        rw [f2] at h2'; exact absurd h2' (by decide)
      refine brk.mk (fun h3 => ?_) (fun h3 => ?_)
      · exact absurd h3 (by decide)
      refine aW ?_
      refine Lq.nx _ (Le.mk ?_ ?_ rfl rfl) ⟨4, by decide, rfl⟩ ?_
      · exact ⟨rfl, rfl, rfl, rfl, rfl, rfl, rfl, rfl, trivial⟩
      · exact ⟨rfl, rfl, rfl, trivial⟩
      · show (5 - ((4 : Nat) : Int)).toNat < (5 - ((3 : Nat) : Int)).toNat
        decide
  · refine aW ?_
    refine brk.mk (fun hc => ?_) (fun hc => ?_)
    rotate_left
    · exact absurd hc (by decide)
    refine aW ?_
    refine brk.mk (fun hq => ?_) (fun hq => ?_)
    · have hit : 4 < t := by have := of_decide_eq_true hq; omega
      have f1 := hw1 4 (by decide) hit
      have f2 := hv1 4 (by decide) hit
      refine aW ?_
      refine Exists.intro 4 (And.intro rfl (And.intro (by decide) ?_))
      refine brk.mk (fun h1 => ?_) (fun h1 => ?_)
      · have h1' : (((Sw 4).objs.length : Int) != 1) = true := h1
        rw [f1] at h1'; exact absurd h1' (by decide)
      refine Exists.intro 4 (And.intro rfl (And.intro (by decide) ?_))
      refine brk.mk (fun h2 => ?_) (fun h2 => ?_)
      · have h2' : (((Sv 4).objs.length : Int) != 1) = true := h2
        rw [f2.1] at h2'; exact absurd h2' (by decide)
      refine brk.mk (fun h3 => ?_) (fun h3 => ?_)
      rotate_left
      · exact absurd h3 (by decide)
      refine Exists.intro 4 (And.intro rfl (And.intro (by decide) ?_))
      refine Exists.intro 0 (And.intro rfl (And.intro (show 0 < (Sv 4).objs.length by rw [f2.1]; decide) ?_))
      refine aW ?_
      refine brk.mk (fun h4 => ?_) (fun h4 => ?_)
      · exact absurd f2.2 (sn_t h4)
      refine aW ?_
      refine Lq.nx _ (Le.mk ?_ ?_ rfl rfl) ⟨5, by decide, rfl⟩ ?_
      · exact ⟨rfl, rfl, rfl, rfl, rfl, rfl, rfl, rfl, trivial⟩
      · exact ⟨rfl, rfl, rfl, trivial⟩
      · show (5 - ((5 : Nat) : Int)).toNat < (5 - ((4 : Nat) : Int)).toNat
        decide
    · have hit : ¬ 4 < t := by have := of_decide_eq_false hq; omega
      have f1 := hw0 4 (by decide) hit
      have f2 := hv0 4 (by decide) hit
      refine aW ?_
      refine Exists.intro 4 (And.intro rfl (And.intro (by decide) ?_))
      refine brk.mk (fun h1 => ?_) (fun h1 => ?_)
      · have h1' : (((Sw 4).objs.length : Int) != 0) = true := h1
        rw [f1] at h1'; exact absurd h1' (by decide)
      refine Exists.intro 4 (And.intro rfl (And.intro (by decide) ?_))
      refine brk.mk (fun h2 => ?_) (fun h2 => ?_)
      · have h2' : (((Sv 4).objs.length : Int) != 0) = true := h2
        rw [f2] at h2'; exact absurd h2' (by decide)
      refine brk.mk (fun h3 => ?_) (fun h3 => ?_)
      · exact absurd h3 (by decide)
      refine aW ?_
      refine Lq.nx _ (Le.mk ?_ ?_ rfl rfl) ⟨5, by decide, rfl⟩ ?_
      · exact ⟨rfl, rfl, rfl, rfl, rfl, rfl, rfl, rfl, trivial⟩
      · exact ⟨rfl, rfl, rfl, trivial⟩
      · show (5 - ((5 : Nat) : Int)).toNat < (5 - ((4 : Nat) : Int)).toNat
        decide
  · refine aW ?_
    refine brk.mk (fun hc => ?_) (fun hc => ?_)
    · exact absurd hc (by decide)
    refine aW ?_
    have hM : (if IntKind.i64.wrap ((t : Int) - 5) > 0 then IntKind.i64.wrap ((t : Int) - 5) else 0) = Lw := by
      rw [wrap_int (by omega) (by omega), hL]
      by_cases h5 : 5 ≤ t
      · rw [if_pos h5]; split <;> omega
      · rw [if_neg h5, if_neg (by omega)]
    refine brk.mk (fun h1 => ?_) (fun h1 => ?_)
    · have h1' : (Lw != (if IntKind.i64.wrap ((t : Int) - 5) > 0 then IntKind.i64.wrap ((t : Int) - 5) else 0)) = true := h1
      rw [hM] at h1'; simp at h1'
    refine brk.mk (fun h2 => ?_) (fun h2 => ?_)
    · have h1' : (Lw != (if IntKind.i64.wrap ((t : Int) - 5) > 0 then IntKind.i64.wrap ((t : Int) - 5) else 0)) = true := h2
      rw [hM] at h1'; simp at h1'
    refine brk.mk (fun h4 => ?_) (fun h4 => ?_)
    · have h4' : (!((E == 0) == decide ((t : Int) ≥ 5))) = true := h4
      by_cases h5 : 5 ≤ t
      · rw [hE, if_pos h5, decide_eq_true (by omega)] at h4'; exact absurd h4' (by decide)
      · rw [hE, if_neg h5, decide_eq_false (by omega)] at h4'; exact absurd h4' (by decide)
    refine brk.mk (fun h6 => ?_) (fun h6 => ?_)
    · have h6' : (E != E) = true := h6
      simp at h6'
    have hG : (E != 0) = true → (E != 17) = false := by
      intro h; rw [hE] at h ⊢; split
      · rename_i h5; rw [if_pos h5] at h; exact absurd h (by decide)
      · rfl
    refine brk.mk (fun h7 => ?_) (fun h7 => ?_)
    · refine aW ?_
      refine brk.mk (fun h8 => ?_) (fun h8 => ?_)
      · have h8' : (E != 17) = true := h8
        rw [hG h7] at h8'; cases h8'
      refine aW ?_
      refine XCall.givv hr ?_
      refine And.intro rfl (And.intro (AVles.refl _) ?_)
      refine aN ?_
      refine aW ?_
      refine brk.mk (fun hc => ?_) (fun hc => ?_)
      · have hq := hq3 (by have := of_decide_eq_true hc; omega)
        have hb1 : (q.2 == 0) = true := by rw [hq]; rfl
        have hb2 : (q.1.toList == data.toList) = true := by rw [hq]; exact beq_self_eq_true data.toList
        refine aW ?_
        refine brk.mk (fun hx => ?_) (fun hx => ?_)
        · refine aW ?_
          refine Rq.rt ?_
          refine And.intro rfl (AVle.of_eq ?_)
          show AV.b (q.1.toList == data.toList) = AV.b true
          rw [hb2]
        · have hx' : (q.2 == 0) = false := hx
          rw [hb1] at hx'; cases hx'
      · have hq := hq0 (by have := of_decide_eq_false hc; omega)
        have hb1 : (q.1.toList == (⟨#[]⟩ : ByteArray).toList) = true := by rw [hq]; exact beq_self_eq_true (⟨#[]⟩ : ByteArray).toList
        have hb2 : (q.2 == 9) = true := by rw [hq]; rfl
        refine aW ?_
        refine brk.mk (fun hx => ?_) (fun hx => ?_)
        · refine aW ?_
          refine Rq.rt ?_
          refine And.intro rfl (AVle.of_eq ?_)
          show AV.b (q.2 == 9) = AV.b true
          rw [hb2]
        · have hx' : (q.1.toList == (⟨#[]⟩ : ByteArray).toList) = false := hx
          rw [hb1] at hx'; cases hx'
    refine aW ?_
    refine XCall.givv hr ?_
    refine And.intro rfl (And.intro (AVles.refl _) ?_)
    refine aN ?_
    refine aW ?_
    refine brk.mk (fun hc => ?_) (fun hc => ?_)
    · have hq := hq3 (by have := of_decide_eq_true hc; omega)
      have hb1 : (q.2 == 0) = true := by rw [hq]; rfl
      have hb2 : (q.1.toList == data.toList) = true := by rw [hq]; exact beq_self_eq_true data.toList
      refine aW ?_
      refine brk.mk (fun hx => ?_) (fun hx => ?_)
      · refine aW ?_
        refine Rq.rt ?_
        refine And.intro rfl (AVle.of_eq ?_)
        show AV.b (q.1.toList == data.toList) = AV.b true
        rw [hb2]
      · have hx' : (q.2 == 0) = false := hx
        rw [hb1] at hx'; cases hx'
    · have hq := hq0 (by have := of_decide_eq_false hc; omega)
      have hb1 : (q.1.toList == (⟨#[]⟩ : ByteArray).toList) = true := by rw [hq]; exact beq_self_eq_true (⟨#[]⟩ : ByteArray).toList
      have hb2 : (q.2 == 9) = true := by rw [hq]; rfl
      refine aW ?_
      refine brk.mk (fun hx => ?_) (fun hx => ?_)
      · refine aW ?_
        refine Rq.rt ?_
        refine And.intro rfl (AVle.of_eq ?_)
        show AV.b (q.2 == 9) = AV.b true
        rw [hb2]
      · have hx' : (q.1.toList == (⟨#[]⟩ : ByteArray).toList) = false := hx
        rw [hb1] at hx'; cases hx'
end Go.Proofs.T

namespace Go.Proofs.T
open Go Go.Hb

theorem live_nat {t j : Nat} : live (t : Int) j = decide (j < t) := by
  unfold live
  by_cases h : j < t
  · rw [decide_eq_true h]; exact decide_eq_true (.inr (by omega))
  · rw [decide_eq_false h]; exact decide_eq_false (by omega)
theorem shK_nat {c : Nat → Sh × Td} {S : Nat → Sh} {t j : Nat} (hj : j < 5) : shK c S (t : Int) 5 j = if j < t then (c j).1 else S j := by
  unfold shK
  rw [live_nat]
  by_cases h : j < t
  · rw [if_pos h, if_pos ⟨hj, decide_eq_true h⟩]
  · rw [if_neg h, if_neg (fun q => h (of_decide_eq_true q.2))]
theorem tdK_nat {c : Nat → Sh × Td} {t j : Nat} (hj : j < 5) : tdK c (t : Int) 5 j = if j < t then (c j).2 else ⟨⟨#[]⟩, 17⟩ := by
  unfold tdK
  rw [if_pos hj, live_nat]
  by_cases h : j < t
  · rw [if_pos h, if_pos (decide_eq_true h)]
  · rw [if_neg h, if_neg (fun q => h (of_decide_eq_true q))]
theorem lf_nat (t : Nat) : lf (t : Int) 5 = if 5 ≤ t then (t : Int) - 5 else 0 := by
  unfold lf
  rw [if_neg (by omega)]
  by_cases h : 5 ≤ t
  · rw [if_pos h, if_pos (by omega)]; rfl
  · rw [if_neg h, if_neg (by omega)]
theorem first_nat {c : Nat → Sh × Td} {t : Nat} (h0 : ∀ j, j < 5 → (c j).2.e = 0) : firstF (tdK c (t : Int) 5) 0 5 = if 5 ≤ t then 0 else 17 := by
  have hT : ∀ j, j < 5 → (tdK c (t : Int) 5 j).e = if j < t then 0 else 17 := fun j hj => by
    rw [tdK_nat hj]
    by_cases h : j < t
    · rw [if_pos h, if_pos h, h0 j hj]
    · rw [if_neg h, if_neg h]
  generalize tdK c (t : Int) 5 = T at *
  simp only [firstF, Nat.sub_zero]
  rw [hT 0 (by decide), hT 1 (by decide), hT 2 (by decide), hT 3 (by decide), hT 4 (by decide)]
  by_cases h5 : 5 ≤ t
  · rw [if_pos h5, if_pos (show 0 < t by omega), if_pos (show 1 < t by omega), if_pos (show 2 < t by omega), if_pos (show 3 < t by omega), if_pos (show 4 < t by omega)]
    rfl
  · rw [if_neg h5]
    obtain rfl | rfl | rfl | rfl | rfl : t = 0 ∨ t = 1 ∨ t = 2 ∨ t = 3 ∨ t = 4 := by omega
    all_goals rfl
/-- The parts that a store of t shelves tells. -/
theorem parts_t {name data : ByteArray} {T : Nat → Td} {t : Nat} (hn : Named name) (hd : data.size ≤ 500) (h1 : ∀ j, j < 5 → j < t → T j = ⟨partB name data j, 0⟩) (h0 : ∀ j, j < 5 → ¬ j < t → T j = ⟨⟨#[]⟩, 9⟩) :
    (3 ≤ t → in1 (partsF name T 5) 0 = some data) ∧ (¬ 3 ≤ t → in1 (partsF name T 5) 0 = none ∧ lostF T false = 9) := by
  have y : ∀ j, j < 5 → j < t → addF name T j = [pOf data j] := fun j hj h => add_yes hn.2 (by omega) hj (h1 j hj h)
  have n : ∀ j, j < 5 → ¬ j < t → addF name T j = [] := fun j hj h => add_no (by rw [h0 j hj h]; decide)
  refine ⟨fun h3 => ?_, fun h3 => ?_⟩
  · have e : partsF name T 5 = [pOf data 0, pOf data 1, pOf data 2] ++ (addF name T 3 ++ addF name T 4) := by
      simp only [partsF]
      rw [y 0 (by decide) (by omega), y 1 (by decide) (by omega), y 2 (by decide) (by omega)]
      simp
    rw [e]
    exact in1_found (p := 0) (q := 1) (r := 2) (by decide) (by decide) (by decide) (by simp) rfl rfl rfl
  · have e3 := n 3 (by decide) (by omega)
    have e4 := n 4 (by decide) (by omega)
    refine ⟨in1_none ?_, ?_⟩
    · simp only [partsF]
      rw [e3, e4]
      obtain rfl | rfl | rfl : t = 0 ∨ t = 1 ∨ t = 2 := by omega
      · rw [n 0 (by decide) (by decide), n 1 (by decide) (by decide), n 2 (by decide) (by decide)]; decide
      · rw [y 0 (by decide) (by decide), n 1 (by decide) (by decide), n 2 (by decide) (by decide)]; simp
      · rw [y 0 (by decide) (by decide), y 1 (by decide) (by decide), n 2 (by decide) (by decide)]; simp
    · have a2 : (T 2).e = 9 := by rw [h0 2 (by decide) (by omega)]
      have a3 : (T 3).e = 9 := by rw [h0 3 (by decide) (by omega)]
      have a4 : (T 4).e = 9 := by rw [h0 4 (by decide) (by omega)]
      unfold lostF
      rw [if_neg (by decide), if_pos]
      simp only [noneF, a2, a3, a4, if_pos]
      omega
theorem power_in {name data : ByteArray} {l : Int} (hl0 : 0 ≤ l) (hl1 : l < 256) (hn : Named name) (hd : data.size ≤ 500) :
    Pure Tryz.prog 5 [.s name, .s data, .i .u8 l] (fun r => r = .b true) := by
  have ht : l.tmod 8 = ((l.toNat % 8 : Nat) : Int) := by
    rw [Int.tmod_eq_emod_of_nonneg hl0]; omega
  have ht7 : l.toNat % 8 < 8 := Nat.mod_lt _ (by decide)
  generalize l.toNat % 8 = t at ht ht7
  have hl : lookF name data.size = 0 := by
    unfold lookF
    have := hn.1
    have := hn.2
    rw [if_neg (by omega), if_neg (by omega)]
  have hS : ∀ i, i < 5 → Small (fr i) := fun i _ => small0
  have hcW : ∀ j, j < 5 → One name (partB name data j) (putC fr name (partB name data) j).1 ∧ (putC fr name (partB name data) j).2 = ⟨⟨#[]⟩, 0⟩ := fun j hj => by
    have := put_first hn (part_small hn hd j hj)
    exact ⟨this.1, congrArg (fun e => (⟨⟨#[]⟩, e⟩ : Td)) this.2⟩
  have hcV : ∀ j, j < 5 → One name data (putC fr name (fun _ => data) j).1 ∧ (putC fr name (fun _ => data) j).2 = ⟨⟨#[]⟩, 0⟩ := fun j hj => by
    have := put_first (data := data) hn (by omega)
    exact ⟨this.1, congrArg (fun e => (⟨⟨#[]⟩, e⟩ : Td)) this.2⟩
  have hw := write13 fr (t : Int) name data hS (by omega) (by omega)
  have hv := post17 fr (t : Int) name data hS (by omega) (by omega)
  have ew : writeF fr (t : Int) name data = (shK (putC fr name (partB name data)) fr (t : Int) 5, lf (t : Int) 5, if 5 ≤ t then 0 else 17) := by
    unfold writeF
    rw [if_neg (fun h => h hl), first_nat fun j hj => by rw [(hcW j hj).2]]
  have ev : postF fr (t : Int) name data = (shK (putC fr name fun _ => data) fr (t : Int) 5, lf (t : Int) 5, if 5 ≤ t then 0 else 17) := by
    unfold postF
    rw [if_neg (fun h => h hl), first_nat fun j hj => by rw [(hcV j hj).2]]
  rw [ew] at hw
  rw [ev] at hv
  have sW : ∀ j, j < 5 → shK (putC fr name (partB name data)) fr (t : Int) 5 j = if j < t then (putC fr name (partB name data) j).1 else sh0 := fun j hj => shK_nat hj
  have sV : ∀ j, j < 5 → shK (putC fr name fun _ => data) fr (t : Int) 5 j = if j < t then (putC fr name (fun _ => data) j).1 else sh0 := fun j hj => shK_nat hj
  generalize shK (putC fr name (partB name data)) fr (t : Int) 5 = Sw at *
  generalize shK (putC fr name fun _ => data) fr (t : Int) 5 = Sv at *
  have w1 : ∀ j, j < 5 → j < t → One name (partB name data j) (Sw j) := fun j hj h => by rw [sW j hj, if_pos h]; exact (hcW j hj).1
  have w0 : ∀ j, j < 5 → ¬ j < t → Sw j = sh0 := fun j hj h => by rw [sW j hj, if_neg h]
  have v1 : ∀ j, j < 5 → j < t → One name data (Sv j) := fun j hj h => by rw [sV j hj, if_pos h]; exact (hcV j hj).1
  have v0 : ∀ j, j < 5 → ¬ j < t → Sv j = sh0 := fun j hj h => by rw [sV j hj, if_neg h]
  have hSw : ∀ i, i < 5 → Small (Sw i) := fun j hj => by
    by_cases h : j < t
    · exact small_one (w1 j hj h)
    · rw [w0 j hj h]; exact small0
  have hT1 : ∀ j, j < 5 → j < t → tdK (getC Sw name) (-1) 5 j = ⟨partB name data j, 0⟩ := fun j hj h => get_part hn hd hj (w1 j hj h)
  have hT0 : ∀ j, j < 5 → ¬ j < t → tdK (getC Sw name) (-1) 5 j = ⟨⟨#[]⟩, 9⟩ := fun j hj h => get_none hn hj (w0 j hj h)
  have hr := read14 Sw (-1) name (by unfold lookF; have := hn.1; have := hn.2; rw [if_neg (by omega), if_neg (by omega)]) hSw (fun j hj => by
    by_cases h : j < t
    · rw [hT1 j hj h]; have := part_small hn hd j hj; show (partB name data j).size ≤ _; omega
    · rw [hT0 j hj h]; exact Nat.zero_le _) (by decide) (by decide)
  have hP := parts_t hn hd hT1 hT0
  refine power_core name data l t hl0 hl1 ht ht7 Sw Sv _ _ _ _ _ hn hd hw hv hr ?_ ?_ ?_ ?_ (lf_nat t) rfl ?_ ?_
  · intro i hi h
    obtain ⟨w, b, e, _⟩ := w1 i hi h
    rw [e]; rfl
  · intro i hi h
    rw [w0 i hi h]; rfl
  · intro i hi h
    obtain ⟨w, b, e, _⟩ := v1 i hi h
    rw [e]; exact ⟨rfl, rfl⟩
  · intro i hi h
    rw [v0 i hi h]; rfl
  · intro h3
    unfold readF
    rw [hP.1 h3]
    rfl
  · intro h3
    unfold readF
    rw [(hP.2 h3).1, gn_neg]
    exact congrArg (fun e => ((⟨#[]⟩ : ByteArray), e)) (hP.2 h3).2
theorem power5 {name data : ByteArray} {l : Int} (hl0 : 0 ≤ l) (hl1 : l < 256) :
    Pure Tryz.prog 5 [.s name, .s data, .i .u8 l] (fun r => r = .b true) := by
  by_cases hg : Named name ∧ data.size ≤ 500
  · exact power_in hl0 hl1 hg.1 hg.2
  refine Pure.weak (Post := fun v => AVle v (.b true)) (Pure.of (XCall.bodyw is5 rfl ?_)) fun r h => ⟨_, rfl, h⟩
  unfold m5
  refine aW ?_
  refine XCall.lenv alive10 rfl ?_
  refine And.intro rfl (And.intro (AVles.refl _) ?_)
  refine aW ?_
  refine brk.mk (fun hz => ?_) (fun hz => ?_)
  · exact absurd hz (by decide)
  refine aW ?_
  refine brk.mk (fun h1 => ?_) (fun h1 => ?_)
  · refine aW ?_
    change awpW Tryz.prog (MC.seq _ _) _ _
    refine aW ?_
    refine Rq.rt ?_
    exact And.intro rfl (AVle.refl _)
  refine brk.mk (fun h2 => ?_) (fun h2 => ?_)
  · refine aW ?_
    change awpW Tryz.prog (MC.seq _ _) _ _
    refine aW ?_
    refine Rq.rt ?_
    exact And.intro rfl (AVle.refl _)
  refine aW ?_
  refine brk.mk (fun h3 => ?_) (fun h3 => ?_)
  · refine aW ?_
    refine Rq.rt ?_
    exact And.intro rfl (AVle.refl _)
  · exact absurd ⟨⟨by have := of_decide_eq_false h1; omega, by have := of_decide_eq_false h2; omega⟩, by have := of_decide_eq_false h3; omega⟩ hg
end Go.Proofs.T

namespace Go.Proofs.T
open Go Go.Hb Go.ChangeShapes Go.WideShapes Go.ChangeAt Go.RowKit Go.Joins Go.Proofs.YtpcnfokdhiknhaaGreatDoor

theorem own : ownKnob Tryz.prog.godebug = none := by kernel_rfl
theorem laidOut : laidOutB Tryz.prog = true := by kernel_rfl
theorem c9 : Tryz.prog.cellsOf 9 = 1 := by kernel_rfl
theorem c5 : Tryz.prog.cellsOf 5 = 1 := by kernel_rfl
theorem c147 : Tryz.prog.cellsOf 147 = 1 := by kernel_rfl
theorem c231 : Tryz.prog.cellsOf 231 = 20 := by kernel_rfl
theorem gSyn : Tryz.prog.globalNamed "strconv.ErrSyntax" = some 2 := by kernel_rfl
theorem gRng : Tryz.prog.globalNamed "strconv.ErrRange" = some 3 := by kernel_rfl
theorem tPow : (Tryz.prog.globals[0]?).map (·.type) = some 231 := by kernel_rfl
theorem tSyn : (Tryz.prog.globals[2]?).map (·.type) = some 132 := by kernel_rfl
theorem tRng : (Tryz.prog.globals[3]?).map (·.type) = some 132 := by kernel_rfl

theorem glob_of {W : World} {g : Nat} {n : String} {cs : Array Value} {q : Array Value → Prop} (hg : Tryz.prog.globalNamed n = some g) (h : W.var? Tryz.prog n = some cs) (hq : q cs) : glob g q W (fun k => k < W.heap.size) := by
  unfold World.var? at h
  rw [hg] at h
  simp only [Option.bind_some] at h
  cases hb : W.heap[g]? with
  | none => rw [hb] at h; cases h
  | some o =>
    rw [hb] at h
    cases o with
    | cells a ty fr =>
      simp only [Option.bind_some, Option.some.injEq] at h
      subst h
      exact ⟨(Array.getElem?_eq_some_iff.1 hb).1, a, ty, fr, hb, hq⟩
    | _ => cases h
set_option maxRecDepth 100000 in
theorem amb_of {W : World} (h : laidMetH Tryz.prog Rows.spreadPowerRow.laid W) : Amb.holds W fun k => k < W.heap.size := by
  rw [MakeChecks.laidMetH_plain _ _ _ (by kernel_rfl)] at h
  have hp := Lib.laidMet.reads h (n := "internal/strconv.uint64pow10") (d := Rows.laid_internal_strconv_uint64pow10) (by simp [Rows.spreadPowerRow])
  have hs := Lib.laidMet.reads h (n := "strconv.ErrSyntax") (d := Rows.laid_strconv_ErrSyntax) (by simp [Rows.spreadPowerRow])
  have hr := Lib.laidMet.reads h (n := "strconv.ErrRange") (d := Rows.laid_strconv_ErrRange) (by simp [Rows.spreadPowerRow])
  refine ⟨?_, ?_, ?_⟩
  · obtain ⟨g, t, cs, fuel, p, h1, h2, h3, h4⟩ := hp
    obtain rfl := Option.some.inj (pow_at.symm.trans h1)
    obtain rfl := Option.some.inj (tPow.symm.trans h2)
    have e := Lib.cells_of_tab (k := .u64) (zs := Lib.pow10Tab) Tryz.underlying231 Tryz.underlying147 c147 c231 h4
    refine glob_of pow_at h3 ?_
    rw [← e]
  · obtain ⟨g, t, cs, fuel, p, h1, h2, h3, h4⟩ := hs
    obtain rfl := Option.some.inj (gSyn.symm.trans h1)
    obtain rfl := Option.some.inj (tSyn.symm.trans h2)
    obtain ⟨_, u, v, e, _⟩ := iface_of_trod Tryz.underlying132 h4
    refine glob_of gSyn h3 ⟨u, v, ?_⟩
    rw [← Array.getElem?_toList, e]
    rfl
  · obtain ⟨g, t, cs, fuel, p, h1, h2, h3, h4⟩ := hr
    obtain rfl := Option.some.inj (gRng.symm.trans h1)
    obtain rfl := Option.some.inj (tRng.symm.trans h2)
    obtain ⟨_, u, v, e, _⟩ := iface_of_trod Tryz.underlying132 h4
    refine glob_of gRng h3 ⟨u, v, ?_⟩
    rw [← Array.getElem?_toList, e]
    rfl
section
variable {H : Type} {enc : TypeId × Value → H} {w : World} {sp : Nat → Bool} {held : Bool}
set_option maxRecDepth 100000 in
theorem open_str {v : Value} {d : DataW H} {p : List MemPlace} {base : Nat} (hv : Value.okWide Tryz.prog w .any base 9 v) (h : DataW.Trod enc Tryz.prog w 0 sp held 9 v d p) :
    ∃ s : ByteArray, RelV ⟨w, fun k => k < w.heap.size, noLoc⟩ (.s s) v := by
  obtain ⟨s, rfl, _⟩ := ChangeMaps.open_string Tryz.underlying9 hv h
  exact ⟨s, by simp only [RelV]⟩
set_option maxRecDepth 100000 in
theorem open_u8 {v : Value} {d : DataW H} {p : List MemPlace} {base : Nat} (hv : Value.okWide Tryz.prog w .any base 5 v) (h : DataW.Trod enc Tryz.prog w 0 sp held 5 v d p) :
    ∃ x : Int, 0 ≤ x ∧ x < 256 ∧ RelV ⟨w, fun k => k < w.heap.size, noLoc⟩ (.i .u8 x) v := by
  obtain ⟨x, rfl, rfl, rfl, wx⟩ := open_int Tryz.underlying5 hv h
  have hx : 0 ≤ x ∧ x ≤ 255 := by simpa [Lit.wf, IntKind.min, IntKind.max, IntKind.signed, IntKind.bits] using wx
  exact ⟨x, hx.1, by omega, by simp only [RelV]⟩
end
end Go.Proofs.T

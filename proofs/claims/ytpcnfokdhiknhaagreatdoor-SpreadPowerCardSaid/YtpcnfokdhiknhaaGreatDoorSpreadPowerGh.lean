/-
  Parts of the proof: no statement of the seat is proved here.
-/
import Derived.Test.YtpcnfokdhiknhaaGreatDoorSpreadPowerGg
import Derived.Test.YtpcnfokdhiknhaaGreatDoorSpreadPowerGc
import Derived.Lib.ItoaLen
set_option linter.unusedSimpArgs false
set_option linter.unusedVariables false
set_option linter.unusedSectionVars false

namespace Go.Proofs.T
open Go Go.Hb

theorem cmp46 {H : List (Nat × Blk)} {nxt : Nat} {K : AV → List (Nat × Blk) → Nat → Prop} {a b : ByteArray} (h : K (.i .i64 (Extern.BytealgCompare.cmp a b)) H nxt) : XCall Tryz.prog 190 [.s a, .s b] H nxt K :=
  XCall.cmp (fn := Tryz.f190) Tryz.func190 (by decide) rfl (by kernel_rfl) (by kernel_rfl) h

theorem cmp44 (a b : ByteArray) : Pure Tryz.prog 162 [.s a, .s b] (fun r => r = .i .i64 (Extern.BytealgCompare.cmp a b)) := by
  refine Pure.of (XCall.body is162 rfl ?_)
  refine cmp46 ?_
  exact ⟨rfl, rfl⟩
theorem cmp40 (a b : ByteArray) : Pure Tryz.prog 122 [.s a, .s b] (fun r => r = .i .i64 (Extern.BytealgCompare.cmp a b)) := by
  refine Pure.of (XCall.body is122 rfl ?_)
  refine XCall.lenv (cmp44 a b) rfl ?_
  exact ⟨rfl, AVles.refl _, rfl, rfl⟩
theorem find39 (x : Ob) (name : ByteArray) : Pure Tryz.prog 121 [.agg [.s x.name, .s x.data, .s x.was, .b x.had], .s name] (fun r => r = .i .i64 (Extern.BytealgCompare.cmp x.name name)) := by
  refine Pure.of (XCall.body is121 rfl ?_)
  refine XCall.lenv (cmp40 x.name name) rfl ?_
  exact ⟨rfl, AVles.refl _, rfl, rfl⟩

/-- The objects' names, by rising words. -/
def Sorted (l : List Ob) : Prop := ∀ i j, i < j → j < l.length → ltb (l.getD i ob0).name (l.getD j ob0).name = true

/-- Where a name is, or would be. -/
structure At (l : List Ob) (name : ByteArray) (i : Nat) : Prop where
  le : i ≤ l.length
  lo : ∀ k, k < i → ltb (l.getD k ob0).name name = true
  hi : ∀ k, i ≤ k → k < l.length → ltb (l.getD k ob0).name name = false

theorem search (l : List Ob) (name : ByteArray) (hs : Sorted l) (hl : l.length ≤ 1099511627776) : Pure Tryz.prog 120 [oAV l, .s name, .fn (.func 121) [] []] (fun r => ∃ i, At l name i ∧ r = .tup [.i .i64 (i : Int), .b (decide (i < l.length ∧ (l.getD i ob0).name = name))]) := by
  refine Pure.weak (Post := fun r => ∃ i, At l name i ∧ AVle r (.tup [.i .i64 (i : Int), .b (decide (i < l.length ∧ (l.getD i ob0).name = name))])) (Pure.of (XCall.body is120 rfl ?_)) fun r ⟨i, h1, h2⟩ => ⟨_, ⟨i, h1, rfl⟩, h2⟩
  refine Exists.intro (fun σ => ∃ i j : Nat, i ≤ j ∧ j ≤ l.length ∧ (∀ k, k < i → ltb (l.getD k ob0).name name = true) ∧ (∀ k, j ≤ k → k < l.length → ltb (l.getD k ob0).name name = false) ∧
    σ = ⟨[(0, oAV l), (1, .s name), (2, .fn (.func 121) [] []), (8, .i .i64 (l.length : Int)), (9, .i .i64 (i : Int)), (10, .i .i64 (j : Int))], [], 0⟩) ?_
  refine Exists.intro (fun σ => (num 10 σ - num 9 σ).toNat) ?_
  refine And.intro ⟨_, Le.mk ?_ ?_ rfl rfl, 0, l.length, Nat.zero_le _, Nat.le_refl _, (fun k hk => absurd hk (Nat.not_lt_zero _)), (fun k h1 h2 => by omega), rfl⟩ ?_
  · exact ⟨rfl, rfl, rfl, rfl, rfl, rfl, trivial⟩
  · exact trivial
  rintro σ' ⟨i, j, hij, hjn, hlo, hhi, rfl⟩
  refine And.intro (fun hc => ?_) (fun hc => ?_)
  · -- one more look
    have hc' : (i : Int) < j := of_decide_eq_true hc
    have hm : IntKind.i64.wrap (Int.fdiv (IntKind.u64.wrap (IntKind.i64.wrap ((i : Int) + (j : Int)))) (2 ^ min (Int.toNat 1) IntKind.u64.bits)) = (((i + j) / 2 : Nat) : Int) := by
      have e1 : IntKind.i64.wrap ((i : Int) + (j : Int)) = ((i + j : Nat) : Int) := by rw [wrap_int (by omega) (by omega)]; omega
      have e2 : IntKind.u64.wrap (((i + j : Nat) : Int)) = ((i + j : Nat) : Int) := by simp [IntKind.wrap, IntKind.bits, IntKind.signed]; omega
      rw [e1, e2]
      have e3 : (2 : Int) ^ min (Int.toNat 1) IntKind.u64.bits = 2 := rfl
      rw [e3, Int.fdiv_eq_ediv_of_nonneg _ (by omega), wrap_int (by omega) (by omega)]
      omega
    have hmi : i ≤ (i + j) / 2 := by omega
    have hmj : (i + j) / 2 < j := by omega
    refine And.intro (show (0 : Int) ≤ 1 by omega) ?_
    refine Exists.intro ((i + j) / 2) ?_
    refine And.intro hm ?_
    refine And.intro (show (i + j) / 2 < l.length by omega) ?_
    refine XCall.lenv (find39 (l.getD ((i + j) / 2) ob0) name) rfl ?_
    refine And.intro rfl (And.intro (AVles.refl _) ?_)
    refine And.intro (fun hcc => ?_) (fun hcc => ?_)
    · -- it lies behind
      have hlt : ltb (l.getD ((i + j) / 2) ob0).name name = true := (cmp_lt _ _).1 (of_decide_eq_true hcc)
      refine Exists.intro ⟨[(0, oAV l), (1, .s name), (2, .fn (.func 121) [] []), (8, .i .i64 (l.length : Int)), (9, .i .i64 (((i + j) / 2 + 1 : Nat) : Int)), (10, .i .i64 (j : Int))], [], 0⟩ (And.intro (Le.mk ?_ trivial rfl rfl) (And.intro ⟨(i + j) / 2 + 1, j, by omega, hjn, ?_, hhi, rfl⟩ ?_))
      · refine ⟨rfl, rfl, rfl, rfl, congrArg (AV.i .i64) ?_, rfl, trivial⟩
        rw [hm, wrap_int (by omega) (by omega)]
        omega
      · intro k hk
        by_cases hk' : k = (i + j) / 2
        · rw [hk']; exact hlt
        · exact ltb_trans (hs k ((i + j) / 2) (by omega) (by omega)) hlt
      · show (((j : Int) - (((i + j) / 2 + 1 : Nat) : Int)).toNat) < ((j : Int) - (i : Int)).toNat
        omega
    · have hge : ltb (l.getD ((i + j) / 2) ob0).name name = false := by
        cases e : ltb (l.getD ((i + j) / 2) ob0).name name with
        | false => rfl
        | true => exact absurd ((cmp_lt _ _).2 e) (of_decide_eq_false hcc)
      refine Exists.intro ⟨[(0, oAV l), (1, .s name), (2, .fn (.func 121) [] []), (8, .i .i64 (l.length : Int)), (9, .i .i64 (i : Int)), (10, .i .i64 (((i + j) / 2 : Nat) : Int))], [], 0⟩ (And.intro (Le.mk ?_ trivial rfl rfl) (And.intro ⟨i, (i + j) / 2, hmi, by omega, hlo, ?_, rfl⟩ ?_))
      · exact ⟨rfl, rfl, rfl, rfl, rfl, congrArg (AV.i .i64) hm, trivial⟩
      · intro k hk hkl
        by_cases hk' : k = (i + j) / 2
        · rw [hk']; exact hge
        · cases e : ltb (l.getD k ob0).name name with
          | false => rfl
          | true =>
            have := ltb_trans (hs ((i + j) / 2) k (by omega) hkl) e
            rw [hge] at this
            cases this
      · show ((((i + j) / 2 : Nat) : Int) - (i : Int)).toNat < ((j : Int) - (i : Int)).toNat
        omega
  · -- found the place
    have hij' : i = j := by have := of_decide_eq_false hc; omega
    subst hij'
    have hat : At l name i := ⟨hjn, hlo, hhi⟩
    refine And.intro (fun hcc => ?_) (fun hcc => ?_)
    · have hil : i < l.length := by have := of_decide_eq_true hcc; omega
      refine Exists.intro i ?_
      refine And.intro rfl ?_
      refine And.intro hil ?_
      refine XCall.lenv (find39 (l.getD i ob0) name) rfl ?_
      refine And.intro rfl (And.intro (AVles.refl _) ?_)
      refine And.intro rfl (Exists.intro i (And.intro hat ?_))
      refine AVle.of_eq (congrArg AV.tup (congrArg (List.cons _) (congrArg (fun b => [AV.b b]) ?_)))
      have := cmp_eq0 (l.getD i ob0).name name
      show (Extern.BytealgCompare.cmp (l.getD i ob0).name name == 0) = _
      by_cases he : (l.getD i ob0).name = name
      · rw [this.2 he, decide_eq_true ⟨hil, he⟩]
        rfl
      · rw [decide_eq_false fun h => he h.2]
        exact beq_eq_false_iff_ne.2 fun h => he (this.1 h)
    · have hil : ¬ i < l.length := by have := of_decide_eq_false hcc; omega
      refine And.intro rfl (Exists.intro i (And.intro hat ?_))
      refine AVle.tup (AVles.cons (AVle.refl _) (AVles.cons ?_ AVles.nil))
      refine AVle.trans AVle.ff (AVle.of_eq (congrArg AV.b ?_))
      simp [hil]

theorem find27 (s : Sh) (name : ByteArray) (hs : Sorted s.objs) (hl : s.objs.length ≤ 1099511627776) : Pure Tryz.prog 89 [sAV s, .s name] (fun r => ∃ i, At s.objs name i ∧ r = .tup [.i .i64 (i : Int), .b (decide (i < s.objs.length ∧ (s.objs.getD i ob0).name = name))]) := by
  refine Pure.of (XCall.body is89 rfl ?_)
  refine XCall.len ?_
  refine Exists.intro _ (And.intro (search s.objs name hs hl) (And.intro rfl fun r hr => ?_))
  obtain ⟨i, hat, rfl⟩ := hr
  refine And.intro rfl ?_
  exact ⟨rfl, i, hat, rfl⟩
end Go.Proofs.T

namespace Go.Proofs.T
open Go Go.Hb

def Named (x : ByteArray) : Prop := 1 ≤ x.size ∧ x.size ≤ 100
instance (x : ByteArray) : Decidable (Named x) := by unfold Named; infer_instance

/-- Why an object may not be where it is; 0: it may. -/
def bad (l : List Ob) (i : Nat) : Int :=
  if ¬ Named (l.getD i ob0).name then 7
  else if 0 < i ∧ (l.getD (i - 1) ob0).name = (l.getD i ob0).name then 8
  else if 0 < i ∧ ltb (l.getD i ob0).name (l.getD (i - 1) ob0).name = true then 2
  else if 65536 < (l.getD i ob0).data.size ∨ 65536 < (l.getD i ob0).was.size then 6
  else if (l.getD i ob0).had = false ∧ (l.getD i ob0).was.size ≠ 0 then 3
  else 0
def chkAt (l : List Ob) : Nat → Nat → Int
  | 0, _ => 0
  | n + 1, i => if bad l i = 0 then chkAt l n (i + 1) else bad l i
def check (l : List Ob) : Int := chkAt l l.length 0

theorem chk_ret {l : List Ob} {i : Nat} {e : Int} (h : check l = chkAt l (l.length - i) i) (hi : i < l.length) (hb : bad l i = e) (he : e ≠ 0) : check l = e := by
  rw [h, show l.length - i = (l.length - (i + 1)) + 1 by omega, chkAt, if_neg (by rw [hb]; exact he), hb]
theorem chk_next {l : List Ob} {i : Nat} (h : check l = chkAt l (l.length - i) i) (hi : i < l.length) (hb : bad l i = 0) : check l = chkAt l (l.length - (i + 1)) (i + 1) := by
  rw [h, show l.length - i = (l.length - (i + 1)) + 1 by omega, chkAt, if_pos hb]

/-- What the questions asked of an object tell. -/
structure Facts (l : List Ob) (i : Nat) : Prop where
  named : Named (l.getD i ob0).name
  twice : ¬ (0 < i ∧ (l.getD (i - 1) ob0).name = (l.getD i ob0).name)
  less : ¬ (0 < i ∧ ltb (l.getD i ob0).name (l.getD (i - 1) ob0).name = true)
  big : ¬ (65536 < (l.getD i ob0).data.size ∨ 65536 < (l.getD i ob0).was.size)
  form : ¬ ((l.getD i ob0).had = false ∧ (l.getD i ob0).was.size ≠ 0)
theorem Facts.bad {l : List Ob} {i : Nat} (h : Facts l i) : bad l i = 0 := by
  unfold T.bad
  rw [if_neg (fun hn => hn h.named), if_neg h.twice, if_neg h.less, if_neg h.big, if_neg h.form]

theorem bad_named {l : List Ob} {i : Nat} (h : ¬ Named (l.getD i ob0).name) : bad l i = 7 := by unfold bad; rw [if_pos h]
theorem bad_twice {l : List Ob} {i : Nat} (h1 : Named (l.getD i ob0).name) (h : 0 < i ∧ (l.getD (i - 1) ob0).name = (l.getD i ob0).name) : bad l i = 8 := by
  unfold bad; rw [if_neg (fun hn => hn h1), if_pos h]
theorem bad_less {l : List Ob} {i : Nat} (h1 : Named (l.getD i ob0).name) (h2 : ¬ (0 < i ∧ (l.getD (i - 1) ob0).name = (l.getD i ob0).name)) (h : 0 < i ∧ ltb (l.getD i ob0).name (l.getD (i - 1) ob0).name = true) : bad l i = 2 := by
  unfold bad; rw [if_neg (fun hn => hn h1), if_neg h2, if_pos h]
theorem bad_big {l : List Ob} {i : Nat} (h1 : Named (l.getD i ob0).name) (h2 : ¬ (0 < i ∧ (l.getD (i - 1) ob0).name = (l.getD i ob0).name)) (h3 : ¬ (0 < i ∧ ltb (l.getD i ob0).name (l.getD (i - 1) ob0).name = true))
    (h : 65536 < (l.getD i ob0).data.size ∨ 65536 < (l.getD i ob0).was.size) : bad l i = 6 := by
  unfold bad; rw [if_neg (fun hn => hn h1), if_neg h2, if_neg h3, if_pos h]
theorem bad_form {l : List Ob} {i : Nat} (h1 : Named (l.getD i ob0).name) (h2 : ¬ (0 < i ∧ (l.getD (i - 1) ob0).name = (l.getD i ob0).name)) (h3 : ¬ (0 < i ∧ ltb (l.getD i ob0).name (l.getD (i - 1) ob0).name = true))
    (h4 : ¬ (65536 < (l.getD i ob0).data.size ∨ 65536 < (l.getD i ob0).was.size)) (h : (l.getD i ob0).had = false ∧ (l.getD i ob0).was.size ≠ 0) : bad l i = 3 := by
  unfold bad; rw [if_neg (fun hn => hn h1), if_neg h2, if_neg h3, if_neg h4, if_pos h]

theorem ba_empty {a : ByteArray} : (a.toList == (⟨#[]⟩ : ByteArray).toList) = decide (a.size = 0) := by
  rw [beq_iff]
  by_cases h : a.size = 0
  · have : a = ⟨#[]⟩ := by
      apply ByteArray.ext
      apply Array.eq_empty_of_size_eq_zero
      exact h
    rw [decide_eq_true this, decide_eq_true h]
  · have : a ≠ ⟨#[]⟩ := fun e => h (by rw [e]; rfl)
    rw [decide_eq_false this, decide_eq_false h]
theorem gtr_ltb (a b : ByteArray) : (!(Op.bytesLess a.toList b.toList || a.toList == b.toList)) = ltb b a := by
  rw [less_ltb, beq_iff]
  rcases ltb_tri a b with h | h | h
  · rw [h, ltb_asymm h]; rfl
  · subst h; rw [ltb_irrefl]; simp
  · rw [h, ltb_asymm h, decide_eq_false (fun e => ltb_ne h e.symm)]; rfl

/-- The loop's standing. -/
def stC (s : Sh) (i : Nat) : St := ⟨[(1, .p 0 0), (6, oAV s.objs), (7, .i .i64 (s.objs.length : Int)), (8, .i .i64 (i : Int))], [(0, .lit [oAV s.objs, fAV s.fates])], 1⟩

theorem check17 (s : Sh) (hl : s.objs.length ≤ 1099511627776) : Pure Tryz.prog 85 [sAV s] (fun r => r = .i .i64 (check s.objs)) := by
  refine Pure.of (XCall.body is85 rfl ?_)
  refine Exists.intro (fun σ => ∃ i : Nat, i ≤ s.objs.length ∧ check s.objs = chkAt s.objs (s.objs.length - i) i ∧ σ = stC s i) ?_
  refine Exists.intro (fun σ => ((s.objs.length : Int) - num 8 σ).toNat) ?_
  refine And.intro ⟨stC s 0, Le.mk ⟨rfl, rfl, rfl, rfl, trivial⟩ ⟨rfl, trivial⟩ rfl rfl, 0, Nat.zero_le _, rfl, rfl⟩ ?_
  rintro σ' ⟨i, hi, hci, rfl⟩
  refine And.intro (fun hc => ?_) (fun hc => ?_)
  · have hil : i < s.objs.length := by have := of_decide_eq_true hc; omega
    refine Exists.intro i ?_
    refine And.intro rfl ?_
    refine And.intro hil ?_
    refine XCall.lenv (named_spec (s.objs.getD i ob0).name) rfl ?_
    refine And.intro rfl (And.intro (AVles.refl _) ?_)
    refine And.intro (fun hn => ?_) (fun hn => ?_)
    · have hnn : ¬ Named (s.objs.getD i ob0).name := fun hN => by
        rw [decide_eq_true (p := 1 ≤ (s.objs.getD i ob0).name.size ∧ (s.objs.getD i ob0).name.size ≤ 100) hN] at hn
        cases hn
      exact ⟨rfl, congrArg (AV.i .i64) (chk_ret hci hil (bad_named hnn) (by decide)).symm⟩
    have hN : Named (s.objs.getD i ob0).name := by
      cases h1 : decide (1 ≤ (s.objs.getD i ob0).name.size ∧ (s.objs.getD i ob0).name.size ≤ 100) with
      | true => exact of_decide_eq_true h1
      | false => rw [h1] at hn; cases hn
    refine And.intro (fun h1 => ?A) (fun h1 => ?B)
    case' A =>
      have h0 : 0 < i := by have := of_decide_eq_true h1; omega
      refine Exists.intro (i - 1) ?_
      refine And.intro (show IntKind.i64.wrap ((i : Int) - 1) = ((i - 1 : Nat) : Int) by rw [wrap_int (by omega) (by omega)]; omega) ?_
      refine And.intro (show i - 1 < s.objs.length by omega) ?_
      refine And.intro (fun h2 => ?_) (fun h2 => ?_)
      · rw [beq_iff] at h2
        exact ⟨rfl, congrArg (AV.i .i64) (chk_ret hci hil (bad_twice hN ⟨h0, of_decide_eq_true h2⟩) (by decide)).symm⟩
      rw [beq_iff] at h2
      have hT : ¬ (0 < i ∧ (s.objs.getD (i - 1) ob0).name = (s.objs.getD i ob0).name) := fun h => of_decide_eq_false h2 h.2
      refine And.intro (fun h3 => ?_) (fun h3 => absurd (of_decide_eq_true h1) (of_decide_eq_false h3))
      refine Exists.intro (i - 1) ?_
      refine And.intro (show IntKind.i64.wrap ((i : Int) - 1) = ((i - 1 : Nat) : Int) by rw [wrap_int (by omega) (by omega)]; omega) ?_
      refine And.intro (show i - 1 < s.objs.length by omega) ?_
      refine And.intro (fun h4 => ?_) (fun h4 => ?_)
      · rw [gtr_ltb] at h4
        exact ⟨rfl, congrArg (AV.i .i64) (chk_ret hci hil (bad_less hN hT ⟨h0, h4⟩) (by decide)).symm⟩
      rw [gtr_ltb] at h4
      have hL : ¬ (0 < i ∧ ltb (s.objs.getD i ob0).name (s.objs.getD (i - 1) ob0).name = true) := fun h => by rw [h4] at h; cases h.2
    case' B =>
      have h0 : ¬ 0 < i := by have := of_decide_eq_false h1; omega
      have hT : ¬ (0 < i ∧ (s.objs.getD (i - 1) ob0).name = (s.objs.getD i ob0).name) := fun h => h0 h.1
      have hL : ¬ (0 < i ∧ ltb (s.objs.getD i ob0).name (s.objs.getD (i - 1) ob0).name = true) := fun h => h0 h.1
      refine And.intro (fun h3 => absurd (of_decide_eq_true h3) (of_decide_eq_false h1)) (fun h3 => ?_)
    all_goals
      refine And.intro (fun h5 => ?_) (fun h5 => ?_)
      · exact ⟨rfl, congrArg (AV.i .i64) (chk_ret hci hil (bad_big hN hT hL (.inl (by have := of_decide_eq_true h5; omega))) (by decide)).symm⟩
      refine And.intro (fun h6 => ?_) (fun h6 => ?_)
      · exact ⟨rfl, congrArg (AV.i .i64) (chk_ret hci hil (bad_big hN hT hL (.inr (by have := of_decide_eq_true h6; omega))) (by decide)).symm⟩
      have hB : ¬ (65536 < (s.objs.getD i ob0).data.size ∨ 65536 < (s.objs.getD i ob0).was.size) := by
        have := of_decide_eq_false h5
        have := of_decide_eq_false h6
        omega
      refine And.intro (fun h7 => ?_) (fun h7 => ?_)
      · have hh : (s.objs.getD i ob0).had = false := by
          cases e : (s.objs.getD i ob0).had with
          | false => rfl
          | true => rw [e] at h7; cases h7
        refine And.intro (fun h8 => ?_) (fun h8 => ?_)
        · rw [ba_empty] at h8
          have hw : (s.objs.getD i ob0).was.size ≠ 0 := by
            cases e : decide ((s.objs.getD i ob0).was.size = 0) with
            | true => rw [e] at h8; cases h8
            | false => exact of_decide_eq_false e
          exact ⟨rfl, congrArg (AV.i .i64) (chk_ret hci hil (bad_form hN hT hL hB ⟨hh, hw⟩) (by decide)).symm⟩
        · rw [ba_empty] at h8
          have hw : (s.objs.getD i ob0).was.size = 0 := by
            cases e : decide ((s.objs.getD i ob0).was.size = 0) with
            | true => exact of_decide_eq_true e
            | false => rw [e] at h8; cases h8
          have hb : bad s.objs i = 0 := Facts.bad ⟨hN, hT, hL, hB, fun h => h.2 hw⟩
          refine Exists.intro (stC s (i + 1)) (And.intro (Le.mk ⟨rfl, rfl, rfl, congrArg (AV.i .i64) (show IntKind.i64.wrap ((i : Int) + 1) = ((i + 1 : Nat) : Int) by rw [wrap_int (by omega) (by omega)]; omega), trivial⟩ ⟨rfl, trivial⟩ rfl rfl) (And.intro ⟨i + 1, hil, chk_next hci hil hb, rfl⟩ ?_))
          show (((s.objs.length : Int) - ((i + 1 : Nat) : Int)).toNat) < ((s.objs.length : Int) - (i : Int)).toNat
          omega
      · have hh : (s.objs.getD i ob0).had = true := by
          cases e : (s.objs.getD i ob0).had with
          | true => rfl
          | false => rw [e] at h7; cases h7
        have hb : bad s.objs i = 0 := Facts.bad ⟨hN, hT, hL, hB, fun h => by rw [hh] at h; cases h.1⟩
        refine Exists.intro (stC s (i + 1)) (And.intro (Le.mk ⟨rfl, rfl, rfl, congrArg (AV.i .i64) (show IntKind.i64.wrap ((i : Int) + 1) = ((i + 1 : Nat) : Int) by rw [wrap_int (by omega) (by omega)]; omega), trivial⟩ ⟨rfl, trivial⟩ rfl rfl) (And.intro ⟨i + 1, hil, chk_next hci hil hb, rfl⟩ ?_))
        show (((s.objs.length : Int) - ((i + 1 : Nat) : Int)).toNat) < ((s.objs.length : Int) - (i : Int)).toNat
        omega
  · -- all of them may be
    have hie : i = s.objs.length := by have := of_decide_eq_false hc; omega
    have hz : check s.objs = 0 := by rw [hci, hie, Nat.sub_self]; rfl
    exact ⟨rfl, congrArg (AV.i .i64) hz.symm⟩
end Go.Proofs.T

namespace Go.Proofs.T
open Go Go.Hb

theorem name_spec (x : ByteArray) : Pure Tryz.prog 48 [.s x] (fun r => r = .b (decide (1 ≤ x.size ∧ x.size ≤ 100))) := by
  refine Pure.weak (Post := fun r => AVle r (.b (decide (1 ≤ x.size ∧ x.size ≤ 100)))) (Pure.of (XCall.body is48 rfl ?_)) fun r h => ⟨_, rfl, h⟩
  refine And.intro (fun h => ?_) (fun h => ?_)
  · refine ⟨rfl, ?_⟩
    exact AVle.of_eq (congrArg AV.b (decide_eq_decide.2 (by have := of_decide_eq_true h; omega)))
  · refine ⟨rfl, ?_⟩
    exact AVle.trans AVle.ff (AVle.of_eq (congrArg AV.b (decide_eq_false (by have := of_decide_eq_false h; omega)).symm))

theorem check9 (s : Sh) (hl : s.objs.length ≤ 1099511627776) : Pure Tryz.prog 19 [sAV s] (fun r => r = .i .i64 (check s.objs)) := by
  refine Pure.of (XCall.body is19 rfl ?_)
  refine Exists.intro (fun σ => ∃ i : Nat, i ≤ s.objs.length ∧ check s.objs = chkAt s.objs (s.objs.length - i) i ∧ σ = stC s i) ?_
  refine Exists.intro (fun σ => ((s.objs.length : Int) - num 8 σ).toNat) ?_
  refine And.intro ⟨stC s 0, Le.mk ⟨rfl, rfl, rfl, rfl, trivial⟩ ⟨rfl, trivial⟩ rfl rfl, 0, Nat.zero_le _, rfl, rfl⟩ ?_
  rintro σ' ⟨i, hi, hci, rfl⟩
  refine And.intro (fun hc => ?_) (fun hc => ?_)
  · have hil : i < s.objs.length := by have := of_decide_eq_true hc; omega
    refine Exists.intro i ?_
    refine And.intro rfl ?_
    refine And.intro hil ?_
    refine XCall.lenv (name_spec (s.objs.getD i ob0).name) rfl ?_
    refine And.intro rfl (And.intro (AVles.refl _) ?_)
    refine And.intro (fun hn => ?_) (fun hn => ?_)
    · have hnn : ¬ Named (s.objs.getD i ob0).name := fun hN => by
        rw [decide_eq_true (p := 1 ≤ (s.objs.getD i ob0).name.size ∧ (s.objs.getD i ob0).name.size ≤ 100) hN] at hn
        cases hn
      exact ⟨rfl, congrArg (AV.i .i64) (chk_ret hci hil (bad_named hnn) (by decide)).symm⟩
    have hN : Named (s.objs.getD i ob0).name := by
      cases h1 : decide (1 ≤ (s.objs.getD i ob0).name.size ∧ (s.objs.getD i ob0).name.size ≤ 100) with
      | true => exact of_decide_eq_true h1
      | false => rw [h1] at hn; cases hn
    refine And.intro (fun h1 => ?A) (fun h1 => ?B)
    case' A =>
      have h0 : 0 < i := by have := of_decide_eq_true h1; omega
      refine Exists.intro (i - 1) ?_
      refine And.intro (show IntKind.i64.wrap ((i : Int) - 1) = ((i - 1 : Nat) : Int) by rw [wrap_int (by omega) (by omega)]; omega) ?_
      refine And.intro (show i - 1 < s.objs.length by omega) ?_
      refine And.intro (fun h2 => ?_) (fun h2 => ?_)
      · rw [beq_iff] at h2
        exact ⟨rfl, congrArg (AV.i .i64) (chk_ret hci hil (bad_twice hN ⟨h0, (of_decide_eq_true h2).symm⟩) (by decide)).symm⟩
      rw [beq_iff] at h2
      have hT : ¬ (0 < i ∧ (s.objs.getD (i - 1) ob0).name = (s.objs.getD i ob0).name) := fun h => of_decide_eq_false h2 h.2.symm
      refine And.intro (fun h3 => ?_) (fun h3 => absurd (of_decide_eq_true h1) (of_decide_eq_false h3))
      refine Exists.intro (i - 1) ?_
      refine And.intro (show IntKind.i64.wrap ((i : Int) - 1) = ((i - 1 : Nat) : Int) by rw [wrap_int (by omega) (by omega)]; omega) ?_
      refine And.intro (show i - 1 < s.objs.length by omega) ?_
      refine And.intro (fun h4 => ?_) (fun h4 => ?_)
      · rw [less_ltb] at h4
        exact ⟨rfl, congrArg (AV.i .i64) (chk_ret hci hil (bad_less hN hT ⟨h0, h4⟩) (by decide)).symm⟩
      rw [less_ltb] at h4
      have hL : ¬ (0 < i ∧ ltb (s.objs.getD i ob0).name (s.objs.getD (i - 1) ob0).name = true) := fun h => by rw [h4] at h; cases h.2
    case' B =>
      have h0 : ¬ 0 < i := by have := of_decide_eq_false h1; omega
      have hT : ¬ (0 < i ∧ (s.objs.getD (i - 1) ob0).name = (s.objs.getD i ob0).name) := fun h => h0 h.1
      have hL : ¬ (0 < i ∧ ltb (s.objs.getD i ob0).name (s.objs.getD (i - 1) ob0).name = true) := fun h => h0 h.1
      refine And.intro (fun h3 => absurd (of_decide_eq_true h3) (of_decide_eq_false h1)) (fun h3 => ?_)
    all_goals
      refine And.intro (fun h5 => ?_) (fun h5 => ?_)
      · exact ⟨rfl, congrArg (AV.i .i64) (chk_ret hci hil (bad_big hN hT hL (.inl (by have := of_decide_eq_true h5; omega))) (by decide)).symm⟩
      refine And.intro (fun h6 => ?_) (fun h6 => ?_)
      · exact ⟨rfl, congrArg (AV.i .i64) (chk_ret hci hil (bad_big hN hT hL (.inr (by have := of_decide_eq_true h6; omega))) (by decide)).symm⟩
      have hB : ¬ (65536 < (s.objs.getD i ob0).data.size ∨ 65536 < (s.objs.getD i ob0).was.size) := by
        have := of_decide_eq_false h5
        have := of_decide_eq_false h6
        omega
      refine And.intro (fun h7 => ?_) (fun h7 => ?_)
      · have hh : (s.objs.getD i ob0).had = false := by
          cases e : (s.objs.getD i ob0).had with
          | false => rfl
          | true => rw [e] at h7; cases h7
        refine And.intro (fun h8 => ?_) (fun h8 => ?_)
        · rw [ba_empty] at h8
          have hw : (s.objs.getD i ob0).was.size ≠ 0 := by
            cases e : decide ((s.objs.getD i ob0).was.size = 0) with
            | true => rw [e] at h8; cases h8
            | false => exact of_decide_eq_false e
          exact ⟨rfl, congrArg (AV.i .i64) (chk_ret hci hil (bad_form hN hT hL hB ⟨hh, hw⟩) (by decide)).symm⟩
        · rw [ba_empty] at h8
          have hw : (s.objs.getD i ob0).was.size = 0 := by
            cases e : decide ((s.objs.getD i ob0).was.size = 0) with
            | true => exact of_decide_eq_true e
            | false => rw [e] at h8; cases h8
          have hb : bad s.objs i = 0 := Facts.bad ⟨hN, hT, hL, hB, fun h => h.2 hw⟩
          refine Exists.intro (stC s (i + 1)) (And.intro (Le.mk ⟨rfl, rfl, rfl, congrArg (AV.i .i64) (show IntKind.i64.wrap ((i : Int) + 1) = ((i + 1 : Nat) : Int) by rw [wrap_int (by omega) (by omega)]; omega), trivial⟩ ⟨rfl, trivial⟩ rfl rfl) (And.intro ⟨i + 1, hil, chk_next hci hil hb, rfl⟩ ?_))
          show (((s.objs.length : Int) - ((i + 1 : Nat) : Int)).toNat) < ((s.objs.length : Int) - (i : Int)).toNat
          omega
      · have hh : (s.objs.getD i ob0).had = true := by
          cases e : (s.objs.getD i ob0).had with
          | true => rfl
          | false => rw [e] at h7; cases h7
        have hb : bad s.objs i = 0 := Facts.bad ⟨hN, hT, hL, hB, fun h => by rw [hh] at h; cases h.1⟩
        refine Exists.intro (stC s (i + 1)) (And.intro (Le.mk ⟨rfl, rfl, rfl, congrArg (AV.i .i64) (show IntKind.i64.wrap ((i : Int) + 1) = ((i + 1 : Nat) : Int) by rw [wrap_int (by omega) (by omega)]; omega), trivial⟩ ⟨rfl, trivial⟩ rfl rfl) (And.intro ⟨i + 1, hil, chk_next hci hil hb, rfl⟩ ?_))
        show (((s.objs.length : Int) - ((i + 1 : Nat) : Int)).toNat) < ((s.objs.length : Int) - (i : Int)).toNat
        omega
  · -- all of them may be
    have hie : i = s.objs.length := by have := of_decide_eq_false hc; omega
    have hz : check s.objs = 0 := by rw [hci, hie, Nat.sub_self]; rfl
    exact ⟨rfl, congrArg (AV.i .i64) hz.symm⟩

end Go.Proofs.T

namespace Go.Proofs.T
open Go Go.Hb

def Small (s : Sh) : Prop := s.objs.length ≤ 1099511627776 ∧ s.fates.length ≤ 1099511627776

theorem same24 (s : Sh) (hl : Small s) : Pure Tryz.prog 86 [sAV s] (fun r => r = sAV s) := by
  refine Pure.weak (Post := fun r => AVle r (sAV s)) (Pure.of (XCall.body is86 rfl ?_)) fun r h => ⟨_, rfl, h⟩
  refine XCall.frame0 (cloneO hl.1) rfl rfl ?_
  refine And.intro rfl ?_
  refine XCall.frame0 (cloneF hl.2) rfl rfl ?_
  refine And.intro (Nat.le_of_eq (Nat.zero_add _)) ?_
  refine And.intro (Nat.le_of_eq (Nat.zero_add _)) ?_
  refine And.intro rfl ?_
  exact AVle.agg (AVles.cons AVle.fs0 (AVles.cons AVle.fs0 AVles.nil))

/-- The next fate, and the fates behind it. -/
def fateOf (s : Sh) : Int := s.fates.headD 0

/-- A shelf's copy without its next fate: its objects are the caller's own. -/
theorem next26 (s : Sh) (hl : Small s) : XCall Tryz.prog 88 [sAV s] [] 0 (Gives (.tup [.agg [.sl 3 4 0 s.objs.length, fAV s.fates.tail], .i .i64 (fateOf s)]) [(3, .rows s.objs.length 4 (cellO s.objs))] 7) := by
  refine XCall.weak1 ⟨rfl, rfl, rfl⟩ (XCall.body is88 rfl ?_)
  refine XCall.frame0 (cloneO hl.1) rfl rfl ?_
  dsimp only [St.put, rn, rns, rid, rnH, rnB, dead, AV.cells, setAt, enumEnv, List.length_nil, List.length_cons, List.getElem?_nil, List.getElem?_cons_zero, List.getElem?_cons_succ, Nat.reduceAdd, Nat.reduceSub, Nat.add_zero]
  refine And.intro (fun hc => ?_) (fun hc => ?_)
  · have h0 : s.fates = [] := by
      have h1 : (s.fates.length : Int) = 0 := eq_of_beq hc
      exact List.eq_nil_of_length_eq_zero (by omega)
    refine Lev.trans (Lev.one (id := 3) (k := .rows s.objs.length 4 (cellO s.objs)) rfl (BlkLe.refl _ rfl)) ?_
    refine Lev.trans (Lev.raise (show 5 ≤ 7 by omega)) (Lev.of ?_)
    refine AVle.tup (AVles.cons (AVle.agg (AVles.cons (AVle.refl _) (AVles.cons ?_ AVles.nil))) (AVles.cons (AVle.of_eq ?_) AVles.nil))
    · rw [h0]
      exact AVle.nils 1 _
    · unfold fateOf; rw [h0]; rfl
  · have h0 : 0 < s.fates.length := by
      have h1 : ¬ (s.fates.length : Int) = 0 := fun e => by rw [e] at hc; cases hc
      omega
    refine Exists.intro 1 ?_
    refine And.intro rfl ?_
    refine And.intro h0 ?_
    have hlen : s.fates.tail.length = s.fates.length - 1 := by simp
    have hle : AVle (.fs (s.fates.length - 1) 1 fun i j => cellF s.fates (1 + i) j) (fAV s.fates.tail) := by
      refine AVle.fs' hlen.symm fun i j hi hj => ?_
      cases hf : s.fates with
      | nil => rw [hf] at h0; cases h0
      | cons f r => simp [cellF, Nat.add_comm 1 i]
    refine XCall.wargs (AVles.cons hle AVles.nil) ?_
    refine XCall.frame0 (cloneF (l := s.fates.tail) (by have := hl.2; omega)) rfl rfl ?_
    dsimp only [St.put, rn, rns, rid, rnH, rnB, dead, AV.cells, setAt, enumEnv, List.length_nil, List.length_cons, List.getElem?_nil, List.getElem?_cons_zero, List.getElem?_cons_succ, Nat.reduceAdd, Nat.reduceSub, Nat.add_zero]
    refine Exists.intro 0 ?_
    refine And.intro rfl ?_
    refine And.intro h0 ?_
    refine And.intro rfl ?_
    dsimp only [St.put, rn, rns, rid, rnH, rnB, dead, AV.cells, setAt, enumEnv, List.length_nil, List.length_cons, List.getElem?_nil, List.getElem?_cons_zero, List.getElem?_cons_succ, Nat.reduceAdd, Nat.reduceSub, Nat.add_zero]
    refine Lev.fz2 ?_
    refine And.intro (Nat.le_of_eq (Nat.zero_add _)) ?_
    refine Lev.trans (Lev.one (id := 3) (k := .rows s.objs.length 4 (cellO s.objs)) rfl (BlkLe.refl _ rfl)) (Lev.of ?_)
    refine AVle.tup (AVles.cons (AVle.agg (AVles.cons (AVle.refl _) (AVles.cons AVle.fs0 AVles.nil))) (AVles.cons (AVle.of_eq ?_) AVles.nil))
    unfold fateOf
    cases hf : s.fates with
    | nil => rw [hf] at h0; cases h0
    | cons f r => rfl
end Go.Proofs.T

set_option maxRecDepth 100000
namespace Go.Proofs.T
open Go Go.Hb

/-- Bytes, the last bit of which is turned. -/
def flip (x : ByteArray) : ByteArray := if h : x.size = 0 then x else x.extract 0 (x.size - 1) ++ ⟨#[(x[x.size - 1]'(by omega)) ^^^ 1]⟩

theorem ba_nil {a : ByteArray} (h : a.size = 0) : a = ⟨#[]⟩ := by
  apply ByteArray.ext
  apply Array.eq_empty_of_size_eq_zero
  exact h

theorem bytesOf_size (n : Nat) (f : Nat → CV) : (bytesOf n f).size = n := by simp [bytesOf, ByteArray.size]

theorem bytesOf_one (f : Nat → CV) : bytesOf 1 f = ⟨#[match f 0 with | .i _ z => UInt8.ofNat z.toNat | _ => 0]⟩ := by
  unfold bytesOf
  apply ByteArray.ext
  apply Array.ext'
  simp only [Array.toList_map, Array.toList_range]
  rfl

theorem xor_fin : ∀ n : Fin 256, UInt8.ofNat (IntKind.u8.wrap ((BitVec.ofInt 8 ((n.val : Nat) : Int) ^^^ BitVec.ofInt 8 1).toNat : Int)).toNat = UInt8.ofNat n.val ^^^ 1 := by decide +kernel
theorem xor_one (b : UInt8) : UInt8.ofNat (IntKind.u8.wrap ((BitVec.ofInt IntKind.u8.bits (b.toNat : Int) ^^^ BitVec.ofInt IntKind.u8.bits 1).toNat : Int)).toNat = b ^^^ 1 := by
  have := xor_fin ⟨b.toNat, b.toNat_lt⟩
  rw [UInt8.ofNat_toNat] at this
  exact this

theorem flip28 (x : ByteArray) (hx : x.size ≤ 1099511627776) : Pure Tryz.prog 106 [.s x] (fun r => r = .s (flip x)) := by
  refine Pure.of (XCall.body is106 rfl ?_)
  refine And.intro (fun hc => ?_) (fun hc => ?_)
  · refine And.intro rfl ?_
    have h0 : x = ⟨#[]⟩ := by
      rw [beq_iff] at hc
      exact of_decide_eq_true hc
    subst h0
    rfl
  · have h0 : ¬ x.size = 0 := fun h => by
      rw [beq_iff, decide_eq_true (ba_nil h)] at hc
      cases hc
    have hw : IntKind.i64.wrap ((x.size : Int) - 1) = ((x.size - 1 : Nat) : Int) := by rw [wrap_int (by omega) (by omega)]; omega
    refine Exists.intro (x.size - 1) ?_
    refine And.intro hw ?_
    refine And.intro (Nat.sub_le _ _) ?_
    refine Exists.intro (x.size - 1) ?_
    refine And.intro hw ?_
    refine Exists.intro (by omega) ?_
    refine And.intro (fun i hi => by (obtain rfl : i = 0 := by omega); trivial) ?_
    refine And.intro ?_ ?_
    · rw [bytesOf_size]
      have : (x.extract 0 (x.size - 1)).size ≤ x.size := by simp [ByteArray.size_extract]
      omega
    refine And.intro rfl ?_
    refine congrArg AV.s ?_
    unfold flip
    rw [dif_neg h0]
    refine congrArg (x.extract 0 (x.size - 1) ++ ·) ?_
    rw [bytesOf_one]
    exact congrArg (fun q => (⟨#[q]⟩ : ByteArray)) (xor_one _)

theorem odd_fin : ∀ n : Fin 256, (decide ((n.val : Int).tmod 2 = 1) = true → UInt8.ofNat (IntKind.u8.wrap ((n.val : Int) - 1)).toNat = UInt8.ofNat n.val ^^^ 1) ∧ (decide ((n.val : Int).tmod 2 = 1) = false → UInt8.ofNat (IntKind.u8.wrap ((n.val : Int) + 1)).toNat = UInt8.ofNat n.val ^^^ 1) := by decide +kernel

theorem flip33 (x : ByteArray) (hx : x.size ≤ 1099511627776) : Pure Tryz.prog 169 [.s x] (fun r => r = .s (flip x)) := by
  refine Pure.of (XCall.body is169 rfl ?_)
  refine And.intro (fun hc => ?_) (fun hc => ?_)
  · refine And.intro rfl ?_
    have h0 : x = ⟨#[]⟩ := by
      rw [beq_iff] at hc
      exact of_decide_eq_true hc
    subst h0
    rfl
  · have h0 : ¬ x.size = 0 := fun h => by
      rw [beq_iff, decide_eq_true (ba_nil h)] at hc
      cases hc
    have hw : IntKind.i64.wrap ((x.size : Int) - 1) = ((x.size - 1 : Nat) : Int) := by rw [wrap_int (by omega) (by omega)]; omega
    refine Exists.intro (x.size - 1) ?_
    refine And.intro hw ?_
    refine Exists.intro (by omega) ?_
    have fin := odd_fin ⟨(x[x.size - 1]'(by omega)).toNat, (x[x.size - 1]'(by omega)).toNat_lt⟩
    rw [UInt8.ofNat_toNat] at fin
    refine And.intro (fun hc => ?A) (fun hc => ?B)
    all_goals
      refine Exists.intro (x.size - 1) ?_
      refine And.intro hw ?_
      refine And.intro (Nat.sub_le _ _) ?_
      refine And.intro (fun i hi => by (obtain rfl : i = 0 := by omega); trivial) ?_
      refine And.intro ?_ ?_
      · rw [bytesOf_size]
        have : (x.extract 0 (x.size - 1)).size ≤ x.size := by simp [ByteArray.size_extract]
        omega
      refine And.intro rfl ?_
      refine congrArg AV.s ?_
      unfold flip
      rw [dif_neg h0]
      refine congrArg (x.extract 0 (x.size - 1) ++ ·) ?_
      rw [bytesOf_one]
    case A => exact congrArg (fun q => (⟨#[q]⟩ : ByteArray)) (fin.1 (decide_eq_true (eq_of_beq hc)))
    case B => exact congrArg (fun q => (⟨#[q]⟩ : ByteArray)) (fin.2 (decide_eq_false (fun h => by rw [beq_iff_eq.2 h] at hc; cases hc)))
end Go.Proofs.T

namespace Go.Proofs.T
open Go Go.Hb

/-- Where a name is, or would be. -/
def pos (l : List Ob) (name : ByteArray) : Nat := (l.takeWhile fun x => ltb x.name name).length
def there (l : List Ob) (name : ByteArray) : Prop := pos l name < l.length ∧ (l.getD (pos l name) ob0).name = name
instance (l : List Ob) (name : ByteArray) : Decidable (there l name) := by unfold there; infer_instance

theorem pos_le (l : List Ob) (name : ByteArray) : pos l name ≤ l.length := by
  unfold pos
  exact (List.takeWhile_sublist _).length_le
theorem pos_lo : ∀ (l : List Ob) (name : ByteArray) (k : Nat), k < pos l name → ltb (l.getD k ob0).name name = true
  | [], name, k, h => by simp [pos] at h
  | x :: l, name, k, h => by
    unfold pos at h
    rw [List.takeWhile_cons] at h
    split at h
    · rename_i hx
      cases k with
      | zero => exact hx
      | succ k =>
        simp only [List.length_cons] at h
        have := pos_lo l name k (by unfold pos; omega)
        simpa using this
    · simp at h
theorem pos_at : ∀ (l : List Ob) (name : ByteArray), pos l name < l.length → ltb (l.getD (pos l name) ob0).name name = false
  | [], name, h => by simp at h
  | x :: l, name, h => by
    unfold pos at h ⊢
    rw [List.takeWhile_cons] at h ⊢
    split
    · rename_i hx
      rw [if_pos hx] at h
      simp only [List.length_cons] at h ⊢
      have := pos_at l name (by unfold pos; omega)
      unfold pos at this
      simpa using this
    · rename_i hx
      simpa using hx
theorem At.pos {l : List Ob} {name : ByteArray} {i : Nat} (h : At l name i) : i = pos l name := by
  rcases Nat.lt_trichotomy i (T.pos l name) with h1 | h1 | h1
  · have := pos_lo l name i h1
    rw [h.hi i (Nat.le_refl _) (Nat.lt_of_lt_of_le h1 (pos_le l name))] at this
    cases this
  · exact h1
  · have := h.lo _ h1
    rw [pos_at l name (Nat.lt_of_lt_of_le h1 h.le)] at this
    cases this

theorem bad0 {l : List Ob} {i : Nat} (h : bad l i = 0) : Facts l i := by
  unfold bad at h
  split at h
  · cases h
  · rename_i h1
    split at h
    · cases h
    · rename_i h2
      split at h
      · cases h
      · rename_i h3
        split at h
        · cases h
        · rename_i h4
          split at h
          · cases h
          · rename_i h5
            exact ⟨Decidable.not_not.1 h1, h2, h3, h4, h5⟩

theorem chkAt0 {l : List Ob} : ∀ {n i : Nat}, chkAt l n i = 0 → ∀ k, i ≤ k → k < i + n → bad l k = 0
  | 0, i, _, k, h1, h2 => by omega
  | n + 1, i, h, k, h1, h2 => by
    rw [chkAt] at h
    split at h
    · rename_i hb
      by_cases hk : k = i
      · rw [hk]; exact hb
      · exact chkAt0 h k (by omega) (by omega)
    · rename_i hb
      exact absurd h hb
theorem chkAt_of {l : List Ob} : ∀ {n i : Nat}, (∀ k, i ≤ k → k < i + n → bad l k = 0) → chkAt l n i = 0
  | 0, _, _ => rfl
  | n + 1, i, h => by
    rw [chkAt, if_pos (h i (Nat.le_refl _) (by omega))]
    exact chkAt_of fun k h1 h2 => h k (by omega) (by omega)
theorem check0 {l : List Ob} : check l = 0 ↔ ∀ k, k < l.length → Facts l k :=
  ⟨fun h k hk => bad0 (chkAt0 h k (Nat.zero_le _) (by omega)), fun h => chkAt_of fun k _ h2 => (h k (by omega)).bad⟩

theorem Facts.lt {l : List Ob} {i : Nat} (h : Facts l i) (h0 : 0 < i) : ltb (l.getD (i - 1) ob0).name (l.getD i ob0).name = true := by
  rcases ltb_tri (l.getD (i - 1) ob0).name (l.getD i ob0).name with h1 | h1 | h1
  · exact h1
  · exact absurd ⟨h0, h1⟩ h.twice
  · exact absurd ⟨h0, h1⟩ h.less
theorem sorted_of {l : List Ob} (h : ∀ k, k < l.length → Facts l k) : Sorted l := by
  intro i j hij hj
  induction j with
  | zero => omega
  | succ j ih =>
    have := (h (j + 1) hj).lt (by omega)
    simp only [Nat.add_sub_cancel] at this
    by_cases hc : i = j
    · rw [hc]; exact this
    · exact ltb_trans (ih (by omega) (by omega)) this

theorem find27' (s : Sh) (name : ByteArray) (hs : Sorted s.objs) (hl : s.objs.length ≤ 1099511627776) : Pure Tryz.prog 89 [sAV s, .s name] (fun r => r = .tup [.i .i64 (pos s.objs name : Int), .b (decide (there s.objs name))]) :=
  Pure.mono (find27 s name hs hl) fun r ⟨i, hat, hr⟩ => by
    rw [hr, hat.pos]
    rfl

def upd (l : List Ob) (name data : ByteArray) : List Ob :=
  if there l name then l.set (pos l name) ⟨name, data, (l.getD (pos l name) ob0).data, true⟩ else ins l (pos l name) ⟨name, data, ⟨#[]⟩, false⟩

def put (s : Sh) (name data : ByteArray) : Sh × Int :=
  if check s.objs ≠ 0 then (s, check s.objs)
  else if ¬ Named name then (s, 7)
  else if 65536 < data.size then (s, 6)
  else if fateOf s = 4 then (⟨s.objs, s.fates.tail⟩, 17)
  else if fateOf s = 1 ∨ fateOf s = 3 then (⟨s.objs, s.fates.tail⟩, 0)
  else (⟨upd s.objs name (if fateOf s = 2 then flip data else data), s.fates.tail⟩, 0)

theorem set_cells {l : List Ob} {i : Nat} (hi : i < l.length) (y : Ob) : ∀ a j, a < l.length → j < 4 → updCell (cellO l) (0 + i) 0 [.s y.name, .s y.data, .s y.was, .b y.had] (0 + a) j = cellO (l.set i y) a j := by
  intro a j ha hj
  rw [Nat.zero_add, Nat.zero_add]
  by_cases h : a = i
  · subst h
    have hb : Nat.beq a a = true := by simp
    have hg : (l.set a y).getD a ob0 = y := by simp [hi]
    simp only [updCell, hb]
    unfold cellO
    rw [hg]
    match j, hj with
    | 0, _ => rfl
    | 1, _ => rfl
    | 2, _ => rfl
    | 3, _ => rfl
  · have hb : Nat.beq a i = false := by
      cases e : Nat.beq a i with
      | false => rfl
      | true => exact absurd (Nat.eq_of_beq_eq_true e) h
    have hg : (l.set i y).getD a ob0 = l.getD a ob0 := by
      rw [List.getD_eq_getElem?_getD, List.getD_eq_getElem?_getD, List.getElem?_set_ne (fun e => h e.symm)]
    simp only [updCell, hb]
    unfold cellO
    rw [hg]

theorem put13 (s : Sh) (name data : ByteArray) (hl : Small s) (hd : data.size ≤ 1099511627776) : Pure Tryz.prog 70 [sAV s, .s name, .s data] (fun r => r = .tup [sAV (put s name data).1, .i .i64 (put s name data).2]) := by
  refine Pure.weak (Post := fun r => AVle r (.tup [sAV (put s name data).1, .i .i64 (put s name data).2])) (Pure.of (XCall.body is70 rfl ?_)) fun r h => ⟨_, rfl, h⟩
  refine XCall.lenv (check17 s hl.1) rfl ?_
  refine And.intro rfl (And.intro (AVles.refl _) ?_)
  dsimp only [St.put, rn, rns, rid, rnH, rnB, dead, AV.cells, setAt, enumEnv, List.length_nil, List.length_cons, List.getElem?_nil, List.getElem?_cons_zero, List.getElem?_cons_succ, Nat.reduceAdd, Nat.reduceSub, Nat.add_zero]
  refine And.intro (fun hc => ?_) (fun hc => ?_)
  · have hc0 : check s.objs ≠ 0 := fun e => by rw [e] at hc; cases hc
    refine XCall.givv (same24 s hl) ?_
    refine And.intro rfl (And.intro (AVles.refl _) ?_)
    refine And.intro rfl ?_
    unfold put
    rw [if_pos hc0]
    exact AVle.refl _
  have hc0 : check s.objs = 0 := by
    cases e : (check s.objs != 0) with
    | true => rw [e] at hc; cases hc
    | false => simpa using e
  refine XCall.lenv (named_spec name) rfl ?_
  refine And.intro rfl (And.intro (AVles.refl _) ?_)
  dsimp only [St.put, rn, rns, rid, rnH, rnB, dead, AV.cells, setAt, enumEnv, List.length_nil, List.length_cons, List.getElem?_nil, List.getElem?_cons_zero, List.getElem?_cons_succ, Nat.reduceAdd, Nat.reduceSub, Nat.add_zero]
  refine And.intro (fun hn => ?_) (fun hn => ?_)
  · have hnn : ¬ Named name := fun hN => by
      rw [decide_eq_true (p := 1 ≤ name.size ∧ name.size ≤ 100) hN] at hn
      cases hn
    refine XCall.givv (same24 s hl) ?_
    refine And.intro rfl (And.intro (AVles.refl _) ?_)
    refine And.intro rfl ?_
    unfold put
    rw [if_neg (fun h => h hc0), if_pos hnn]
    exact AVle.refl _
  have hN : Named name := by
    cases h1 : decide (1 ≤ name.size ∧ name.size ≤ 100) with
    | true => exact of_decide_eq_true h1
    | false => rw [h1] at hn; cases hn
  dsimp only [St.put, rn, rns, rid, rnH, rnB, dead, AV.cells, setAt, enumEnv, List.length_nil, List.length_cons, List.getElem?_nil, List.getElem?_cons_zero, List.getElem?_cons_succ, Nat.reduceAdd, Nat.reduceSub, Nat.add_zero]
  refine And.intro (fun hb => ?_) (fun hb => ?_)
  · have hbb : 65536 < data.size := by have := of_decide_eq_true hb; omega
    refine XCall.givv (same24 s hl) ?_
    refine And.intro rfl (And.intro (AVles.refl _) ?_)
    refine And.intro rfl ?_
    unfold put
    rw [if_neg (fun h => h hc0), if_neg (fun h => h hN), if_pos hbb]
    exact AVle.refl _
  have hbb : ¬ 65536 < data.size := by have := of_decide_eq_false hb; omega
  dsimp only [St.put, rn, rns, rid, rnH, rnB, dead, AV.cells, setAt, enumEnv, List.length_nil, List.length_cons, List.getElem?_nil, List.getElem?_cons_zero, List.getElem?_cons_succ, Nat.reduceAdd, Nat.reduceSub, Nat.add_zero]
  refine XCall.frame0 (next26 s hl) rfl rfl ?_
  dsimp only [St.put, rn, rns, rid, rnH, rnB, dead, AV.cells, setAt, enumEnv, List.length_nil, List.length_cons, List.getElem?_nil, List.getElem?_cons_zero, List.getElem?_cons_succ, Nat.reduceAdd, Nat.reduceSub, Nat.add_zero]
  have hS : Sorted s.objs := sorted_of (check0.1 hc0)
  have leaf : AVle (.agg [.fs s.objs.length 4 fun i j => cellO s.objs (0 + i) j, fAV s.fates.tail]) (sAV ⟨s.objs, s.fates.tail⟩) := AVle.agg (AVles.cons AVle.fs0 (AVles.refl _))
  refine And.intro (fun h4 => ?_) (fun h4 => ?_)
  · refine And.intro (Nat.le_of_eq (Nat.zero_add _)) ?_
    refine And.intro rfl ?_
    unfold put
    rw [if_neg (fun h => h hc0), if_neg (fun h => h hN), if_neg hbb, if_pos (eq_of_beq h4)]
    exact AVle.tup (AVles.cons leaf (AVles.refl _))
  have n4 : ¬ fateOf s = 4 := fun e => by rw [e] at h4; cases h4
  refine And.intro (fun h1 => ?_) (fun h1 => ?_)
  · refine And.intro (fun _ => ?_) (fun h => by rw [h1] at h; cases h)
    refine And.intro (Nat.le_of_eq (Nat.zero_add _)) ?_
    refine And.intro rfl ?_
    unfold put
    rw [if_neg (fun h => h hc0), if_neg (fun h => h hN), if_neg hbb, if_neg n4, if_pos (.inl (eq_of_beq h1))]
    exact AVle.tup (AVles.cons leaf (AVles.refl _))
  have n1 : ¬ fateOf s = 1 := fun e => by rw [e] at h1; cases h1
  refine And.intro (fun h3 => ?_) (fun h3 => ?_)
  · refine And.intro (Nat.le_of_eq (Nat.zero_add _)) ?_
    refine And.intro rfl ?_
    unfold put
    rw [if_neg (fun h => h hc0), if_neg (fun h => h hN), if_neg hbb, if_neg n4, if_pos (.inr (eq_of_beq h3))]
    exact AVle.tup (AVles.cons leaf (AVles.refl _))
  have n3 : ¬ fateOf s = 3 := fun e => by rw [e] at h3; cases h3
  refine And.intro (fun h2 => ?A) (fun h2 => ?B)
  case' A =>
    have f2 : fateOf s = 2 := eq_of_beq h2
    refine XCall.lenv (flip28 data hd) rfl ?_
    refine And.intro rfl (And.intro (AVles.refl _) ?_)
  case' B =>
    have f2 : ¬ fateOf s = 2 := fun e => by rw [e] at h2; cases h2
  all_goals
    dsimp only [St.put, rn, rns, rid, rnH, rnB, dead, AV.cells, setAt, enumEnv, List.length_nil, List.length_cons, List.getElem?_nil, List.getElem?_cons_zero, List.getElem?_cons_succ, Nat.reduceAdd, Nat.reduceSub, Nat.add_zero]
    refine XCall.lenv (find27' ⟨s.objs, s.fates.tail⟩ name hS hl.1) rfl ?_
    refine And.intro (Nat.le_of_eq (Nat.zero_add _)) ?_
    refine And.intro rfl (And.intro (AVles.cons leaf (AVles.refl _)) ?_)
    dsimp only [St.put, rn, rns, rid, rnH, rnB, dead, AV.cells, setAt, enumEnv, List.length_nil, List.length_cons, List.getElem?_nil, List.getElem?_cons_zero, List.getElem?_cons_succ, Nat.reduceAdd, Nat.reduceSub, Nat.add_zero]
    refine And.intro (fun ht => ?_) (fun ht => ?_)
    · have hth : there s.objs name := of_decide_eq_true ht
      refine Exists.intro (pos s.objs name) ?_
      refine And.intro rfl ?_
      refine And.intro hth.1 ?_
      refine And.intro (show 0 + pos s.objs name < s.objs.length by have := hth.1; omega) ?_
      refine Exists.intro (pos s.objs name) ?_
      refine And.intro rfl ?_
      refine And.intro hth.1 ?_
      refine And.intro (show 0 + pos s.objs name < s.objs.length by have := hth.1; omega) ?_
      dsimp only [St.put, rn, rns, rid, rnH, rnB, dead, AV.cells, setAt, enumEnv, List.length_nil, List.length_cons, List.getElem?_nil, List.getElem?_cons_zero, List.getElem?_cons_succ, Nat.reduceAdd, Nat.reduceSub, Nat.add_zero]
      refine And.intro (Nat.le_of_eq (Nat.zero_add _)) ?_
      refine And.intro rfl ?_
      unfold put
      rw [if_neg (fun h => h hc0), if_neg (fun h => h hN), if_neg hbb, if_neg n4, if_neg (fun h => h.elim n1 n3)]
      first | rw [if_pos f2] | rw [if_neg f2]
      unfold upd
      rw [if_pos hth]
      exact AVle.tup (AVles.cons (AVle.agg (AVles.cons (AVle.fs' (by simp) fun a j ha hj => Eq.trans (by simp only [Nat.zero_add]) (set_cells hth.1 ⟨name, _, (s.objs.getD (pos s.objs name) ob0).data, true⟩ a j ha hj)) (AVles.refl _))) (AVles.refl _))
    · have hth : ¬ there s.objs name := of_decide_eq_false ht
      refine XCall.frame2 5 11 (insert29 s.objs (pos s.objs name) ⟨name, _, ⟨#[]⟩, false⟩ rfl (pos_le _ _) hl.1) rfl rfl (by decide) (show 5 < 12 by decide) (show 11 < 12 by decide) (by decide) rfl (BlkLe.refl _ rfl) rfl rfl (BlkLe.refl _ rfl) rfl ?_
      dsimp only [St.put, rn, rns, rid, rnH, rnB, dead, AV.cells, setAt, enumEnv, List.length_nil, List.length_cons, List.getElem?_nil, List.getElem?_cons_zero, List.getElem?_cons_succ, Nat.reduceAdd, Nat.reduceSub, Nat.add_zero]
      refine And.intro (Nat.le_of_eq (Nat.zero_add _)) ?_
      refine And.intro rfl ?_
      unfold put
      rw [if_neg (fun h => h hc0), if_neg (fun h => h hN), if_neg hbb, if_neg n4, if_neg (fun h => h.elim n1 n3)]
      first | rw [if_pos f2] | rw [if_neg f2]
      unfold upd
      rw [if_neg hth]
      exact AVle.tup (AVles.cons (AVle.agg (AVles.cons (AVle.fs' (ins_len (pos_le _ _) _).symm fun a j ha hj => by (rw [Nat.zero_add]) <;> rfl) (AVles.refl _))) (AVles.refl _))
end Go.Proofs.T

namespace Go.Proofs.T
open Go Go.Hb

def drop (s : Sh) (name : ByteArray) : Sh × Int :=
  if check s.objs ≠ 0 then (s, check s.objs)
  else if ¬ Named name then (s, 7)
  else if fateOf s = 4 then (⟨s.objs, s.fates.tail⟩, 17)
  else if fateOf s = 1 ∨ fateOf s = 3 then (⟨s.objs, s.fates.tail⟩, 0)
  else if ¬ there s.objs name then (⟨s.objs, s.fates.tail⟩, 9)
  else (⟨del s.objs (pos s.objs name), s.fates.tail⟩, 0)

theorem drop16 (s : Sh) (name : ByteArray) (hl : Small s) : Pure Tryz.prog 51 [sAV s, .s name] (fun r => r = .tup [sAV (drop s name).1, .i .i64 (drop s name).2]) := by
  refine Pure.weak (Post := fun r => AVle r (.tup [sAV (drop s name).1, .i .i64 (drop s name).2])) (Pure.of (XCall.body is51 rfl ?_)) fun r h => ⟨_, rfl, h⟩
  refine XCall.lenv (check17 s hl.1) rfl ?_
  refine And.intro rfl (And.intro (AVles.refl _) ?_)
  dsimp only [St.put, rn, rns, rid, rnH, rnB, dead, AV.cells, setAt, enumEnv, List.length_nil, List.length_cons, List.getElem?_nil, List.getElem?_cons_zero, List.getElem?_cons_succ, Nat.reduceAdd, Nat.reduceSub, Nat.add_zero]
  refine And.intro (fun hc => ?_) (fun hc => ?_)
  · have hc0 : check s.objs ≠ 0 := fun e => by rw [e] at hc; cases hc
    refine XCall.givv (same24 s hl) ?_
    refine And.intro rfl (And.intro (AVles.refl _) ?_)
    refine And.intro rfl ?_
    unfold drop
    rw [if_pos hc0]
    exact AVle.refl _
  have hc0 : check s.objs = 0 := by
    cases e : (check s.objs != 0) with
    | true => rw [e] at hc; cases hc
    | false => simpa using e
  refine XCall.lenv (named_spec name) rfl ?_
  refine And.intro rfl (And.intro (AVles.refl _) ?_)
  dsimp only [St.put, rn, rns, rid, rnH, rnB, dead, AV.cells, setAt, enumEnv, List.length_nil, List.length_cons, List.getElem?_nil, List.getElem?_cons_zero, List.getElem?_cons_succ, Nat.reduceAdd, Nat.reduceSub, Nat.add_zero]
  refine And.intro (fun hn => ?_) (fun hn => ?_)
  · have hnn : ¬ Named name := fun hN => by
      rw [decide_eq_true (p := 1 ≤ name.size ∧ name.size ≤ 100) hN] at hn
      cases hn
    refine XCall.givv (same24 s hl) ?_
    refine And.intro rfl (And.intro (AVles.refl _) ?_)
    refine And.intro rfl ?_
    unfold drop
    rw [if_neg (fun h => h hc0), if_pos hnn]
    exact AVle.refl _
  have hN : Named name := by
    cases h1 : decide (1 ≤ name.size ∧ name.size ≤ 100) with
    | true => exact of_decide_eq_true h1
    | false => rw [h1] at hn; cases hn
  dsimp only [St.put, rn, rns, rid, rnH, rnB, dead, AV.cells, setAt, enumEnv, List.length_nil, List.length_cons, List.getElem?_nil, List.getElem?_cons_zero, List.getElem?_cons_succ, Nat.reduceAdd, Nat.reduceSub, Nat.add_zero]
  refine XCall.frame0 (next26 s hl) rfl rfl ?_
  dsimp only [St.put, rn, rns, rid, rnH, rnB, dead, AV.cells, setAt, enumEnv, List.length_nil, List.length_cons, List.getElem?_nil, List.getElem?_cons_zero, List.getElem?_cons_succ, Nat.reduceAdd, Nat.reduceSub, Nat.add_zero]
  have hS : Sorted s.objs := sorted_of (check0.1 hc0)
  have leaf : AVle (.agg [.fs s.objs.length 4 fun i j => cellO s.objs (0 + i) j, fAV s.fates.tail]) (sAV ⟨s.objs, s.fates.tail⟩) := AVle.agg (AVles.cons AVle.fs0 (AVles.refl _))
  refine XCall.lenv (find27' ⟨s.objs, s.fates.tail⟩ name hS hl.1) rfl ?_
  refine And.intro (Nat.le_of_eq (Nat.zero_add _)) ?_
  refine And.intro rfl (And.intro (AVles.cons leaf (AVles.refl _)) ?_)
  dsimp only [St.put, rn, rns, rid, rnH, rnB, dead, AV.cells, setAt, enumEnv, List.length_nil, List.length_cons, List.getElem?_nil, List.getElem?_cons_zero, List.getElem?_cons_succ, Nat.reduceAdd, Nat.reduceSub, Nat.add_zero]
  refine And.intro (fun h4 => ?_) (fun h4 => ?_)
  · refine And.intro (Nat.le_of_eq (Nat.zero_add _)) ?_
    refine And.intro rfl ?_
    unfold drop
    rw [if_neg (fun h => h hc0), if_neg (fun h => h hN), if_pos (eq_of_beq h4)]
    exact AVle.tup (AVles.cons leaf (AVles.refl _))
  have n4 : ¬ fateOf s = 4 := fun e => by rw [e] at h4; cases h4
  refine And.intro (fun h1 => ?_) (fun h1 => ?_)
  · refine And.intro (Nat.le_of_eq (Nat.zero_add _)) ?_
    refine And.intro rfl ?_
    unfold drop
    rw [if_neg (fun h => h hc0), if_neg (fun h => h hN), if_neg n4, if_pos (.inl (eq_of_beq h1))]
    exact AVle.tup (AVles.cons leaf (AVles.refl _))
  have n1 : ¬ fateOf s = 1 := fun e => by rw [e] at h1; cases h1
  refine And.intro (fun h3 => ?_) (fun h3 => ?_)
  · refine And.intro (Nat.le_of_eq (Nat.zero_add _)) ?_
    refine And.intro rfl ?_
    unfold drop
    rw [if_neg (fun h => h hc0), if_neg (fun h => h hN), if_neg n4, if_pos (.inr (eq_of_beq h3))]
    exact AVle.tup (AVles.cons leaf (AVles.refl _))
  have n3 : ¬ fateOf s = 3 := fun e => by rw [e] at h3; cases h3
  refine And.intro (fun ht => ?_) (fun ht => ?_)
  · have hth : ¬ there s.objs name := fun h => by rw [decide_eq_true h] at ht; cases ht
    refine And.intro (Nat.le_of_eq (Nat.zero_add _)) ?_
    refine And.intro rfl ?_
    unfold drop
    rw [if_neg (fun h => h hc0), if_neg (fun h => h hN), if_neg n4, if_neg (fun h => h.elim n1 n3), if_pos hth]
    exact AVle.tup (AVles.cons leaf (AVles.refl _))
  have hth : there s.objs name := by
    cases e : decide (there s.objs name) with
    | true => exact of_decide_eq_true e
    | false => rw [e] at ht; cases ht
  have hlt := hth.1
  have hlen := hl.1
  refine XCall.wargs (args' := [.sl 5 4 0 s.objs.length, .i .i64 (pos s.objs name : Int), .i .i64 ((pos s.objs name + 1 : Nat) : Int)]) (AVles.cons (AVle.refl _) (AVles.cons (AVle.refl _) (AVles.cons (AVle.of_eq (congrArg (AV.i .i64) ?_)) AVles.nil))) ?_
  · rw [wrap_int (by omega) (by omega)]; omega
  refine XCall.frame1 5 (delete31 s.objs (pos s.objs name) hlt hlen) rfl rfl (show 5 < 10 by decide) (by decide) rfl (BlkLe.refl _ rfl) rfl ?_
  dsimp only [St.put, rn, rns, rid, rnH, rnB, dead, AV.cells, setAt, enumEnv, List.length_nil, List.length_cons, List.getElem?_nil, List.getElem?_cons_zero, List.getElem?_cons_succ, Nat.reduceAdd, Nat.reduceSub, Nat.add_zero]
  refine And.intro (Nat.le_of_eq (Nat.zero_add _)) ?_
  refine And.intro rfl ?_
  unfold drop
  rw [if_neg (fun h => h hc0), if_neg (fun h => h hN), if_neg n4, if_neg (fun h => h.elim n1 n3), if_neg (fun h => h hth)]
  exact AVle.tup (AVles.cons (AVle.agg (AVles.cons (AVle.fs' (del_len hlt).symm fun a j ha hj => by (rw [Nat.zero_add]) <;> rfl) (AVles.refl _))) (AVles.refl _))
end Go.Proofs.T

namespace Go.Proofs.T
open Go Go.Hb

def get (s : Sh) (name : ByteArray) : Sh × ByteArray × Int :=
  if check s.objs ≠ 0 then (s, ⟨#[]⟩, check s.objs)
  else if ¬ Named name then (s, ⟨#[]⟩, 7)
  else if fateOf s = 4 then (⟨s.objs, s.fates.tail⟩, ⟨#[]⟩, 17)
  else if fateOf s = 1 ∨ ¬ there s.objs name ∨ (fateOf s = 3 ∧ (s.objs.getD (pos s.objs name) ob0).had = false) then (⟨s.objs, s.fates.tail⟩, ⟨#[]⟩, 9)
  else if fateOf s = 3 then (⟨s.objs, s.fates.tail⟩, (s.objs.getD (pos s.objs name) ob0).was, 0)
  else if fateOf s = 2 then (⟨s.objs, s.fates.tail⟩, flip (s.objs.getD (pos s.objs name) ob0).data, 0)
  else (⟨s.objs, s.fates.tail⟩, (s.objs.getD (pos s.objs name) ob0).data, 0)

def gAV (r : Sh × ByteArray × Int) : AV := .tup [sAV r.1, .s r.2.1, .i .i64 r.2.2]

theorem get12 (s : Sh) (name : ByteArray) (hl : Small s) : Pure Tryz.prog 80 [sAV s, .s name] (fun r => r = gAV (get s name)) := by
  refine Pure.weak (Post := fun r => AVle r (gAV (get s name))) (Pure.of (XCall.body is80 rfl ?_)) fun r h => ⟨_, rfl, h⟩
  refine XCall.lenv (check17 s hl.1) rfl ?_
  refine And.intro rfl (And.intro (AVles.refl _) ?_)
  dsimp only [St.put, rn, rns, rid, rnH, rnB, dead, AV.cells, setAt, enumEnv, List.length_nil, List.length_cons, List.getElem?_nil, List.getElem?_cons_zero, List.getElem?_cons_succ, Nat.reduceAdd, Nat.reduceSub, Nat.add_zero]
  refine And.intro (fun hc => ?_) (fun hc => ?_)
  · have hc0 : check s.objs ≠ 0 := fun e => by rw [e] at hc; cases hc
    refine XCall.givv (same24 s hl) ?_
    refine And.intro rfl (And.intro (AVles.refl _) ?_)
    refine And.intro rfl ?_
    unfold get
    rw [if_pos hc0]
    exact AVle.refl _
  have hc0 : check s.objs = 0 := by
    cases e : (check s.objs != 0) with
    | true => rw [e] at hc; cases hc
    | false => simpa using e
  refine XCall.lenv (named_spec name) rfl ?_
  refine And.intro rfl (And.intro (AVles.refl _) ?_)
  dsimp only [St.put, rn, rns, rid, rnH, rnB, dead, AV.cells, setAt, enumEnv, List.length_nil, List.length_cons, List.getElem?_nil, List.getElem?_cons_zero, List.getElem?_cons_succ, Nat.reduceAdd, Nat.reduceSub, Nat.add_zero]
  refine And.intro (fun hn => ?_) (fun hn => ?_)
  · have hnn : ¬ Named name := fun hN => by
      rw [decide_eq_true (p := 1 ≤ name.size ∧ name.size ≤ 100) hN] at hn
      cases hn
    refine XCall.givv (same24 s hl) ?_
    refine And.intro rfl (And.intro (AVles.refl _) ?_)
    refine And.intro rfl ?_
    unfold get
    rw [if_neg (fun h => h hc0), if_pos hnn]
    exact AVle.refl _
  have hN : Named name := by
    cases h1 : decide (1 ≤ name.size ∧ name.size ≤ 100) with
    | true => exact of_decide_eq_true h1
    | false => rw [h1] at hn; cases hn
  dsimp only [St.put, rn, rns, rid, rnH, rnB, dead, AV.cells, setAt, enumEnv, List.length_nil, List.length_cons, List.getElem?_nil, List.getElem?_cons_zero, List.getElem?_cons_succ, Nat.reduceAdd, Nat.reduceSub, Nat.add_zero]
  refine XCall.frame0 (next26 s hl) rfl rfl ?_
  dsimp only [St.put, rn, rns, rid, rnH, rnB, dead, AV.cells, setAt, enumEnv, List.length_nil, List.length_cons, List.getElem?_nil, List.getElem?_cons_zero, List.getElem?_cons_succ, Nat.reduceAdd, Nat.reduceSub, Nat.add_zero]
  have hS : Sorted s.objs := sorted_of (check0.1 hc0)
  have leaf : AVle (.agg [.fs s.objs.length 4 fun i j => cellO s.objs (0 + i) j, fAV s.fates.tail]) (sAV ⟨s.objs, s.fates.tail⟩) := AVle.agg (AVles.cons AVle.fs0 (AVles.refl _))
  refine XCall.lenv (find27' ⟨s.objs, s.fates.tail⟩ name hS hl.1) rfl ?_
  refine And.intro (Nat.le_of_eq (Nat.zero_add _)) ?_
  refine And.intro rfl (And.intro (AVles.cons leaf (AVles.refl _)) ?_)
  dsimp only [St.put, rn, rns, rid, rnH, rnB, dead, AV.cells, setAt, enumEnv, List.length_nil, List.length_cons, List.getElem?_nil, List.getElem?_cons_zero, List.getElem?_cons_succ, Nat.reduceAdd, Nat.reduceSub, Nat.add_zero]
  refine And.intro (fun h4 => ?_) (fun h4 => ?_)
  · refine And.intro (Nat.le_of_eq (Nat.zero_add _)) ?_
    refine And.intro rfl ?_
    unfold get
    rw [if_neg (fun h => h hc0), if_neg (fun h => h hN), if_pos (eq_of_beq h4)]
    exact AVle.tup (AVles.cons leaf (AVles.refl _))
  have n4 : ¬ fateOf s = 4 := fun e => by rw [e] at h4; cases h4
  dsimp only [St.put, rn, rns, rid, rnH, rnB, dead, AV.cells, setAt, enumEnv, List.length_nil, List.length_cons, List.getElem?_nil, List.getElem?_cons_zero, List.getElem?_cons_succ, Nat.reduceAdd, Nat.reduceSub, Nat.add_zero]
  have last : ∀ (x : ByteArray) (e : Int), AVle (.tup [.agg [.fs s.objs.length 4 fun i j => cellO s.objs (0 + i) j, fAV s.fates.tail], .s x, .i .i64 e]) (gAV (⟨s.objs, s.fates.tail⟩, x, e)) := fun x e => AVle.tup (AVles.cons leaf (AVles.refl _))
  show aops _ _ _ _
  show brk _ _ _
  refine And.intro (fun h1 => ?_) (fun h1 => ?_)
  · refine And.intro (Nat.le_of_eq (Nat.zero_add _)) ?_
    refine And.intro rfl ?_
    unfold get
    rw [if_neg (fun h => h hc0), if_neg (fun h => h hN), if_neg n4, if_pos (.inl (eq_of_beq h1))]
    exact last _ _
  have n1 : ¬ fateOf s = 1 := fun e => by rw [e] at h1; cases h1
  dsimp only [St.put, rn, rns, rid, rnH, rnB, dead, AV.cells, setAt, enumEnv, List.length_nil, List.length_cons, List.getElem?_nil, List.getElem?_cons_zero, List.getElem?_cons_succ, Nat.reduceAdd, Nat.reduceSub, Nat.add_zero]
  show aops _ _ _ _
  show brk _ _ _
  refine And.intro (fun ht => ?_) (fun ht => ?_)
  · have hth : ¬ there s.objs name := fun h => by rw [decide_eq_true h] at ht; cases ht
    refine And.intro (Nat.le_of_eq (Nat.zero_add _)) ?_
    refine And.intro rfl ?_
    unfold get
    rw [if_neg (fun h => h hc0), if_neg (fun h => h hN), if_neg n4, if_pos (.inr (.inl hth))]
    exact last _ _
  have hth : there s.objs name := by
    cases e : decide (there s.objs name) with
    | true => exact of_decide_eq_true e
    | false => rw [e] at ht; cases ht
  have hlt := hth.1
  have hbig := (check0.1 hc0 _ hlt).big
  dsimp only [St.put, rn, rns, rid, rnH, rnB, dead, AV.cells, setAt, enumEnv, List.length_nil, List.length_cons, List.getElem?_nil, List.getElem?_cons_zero, List.getElem?_cons_succ, Nat.reduceAdd, Nat.reduceSub, Nat.add_zero]
  show aops _ _ _ _
  show brk _ _ _
  refine And.intro (fun h3 => ?_) (fun h3 => ?_)
  · have f3 : fateOf s = 3 := eq_of_beq h3
    refine Exists.intro (pos s.objs name) ?_
    refine And.intro rfl ?_
    refine And.intro hlt ?_
    refine And.intro (show 0 + pos s.objs name < s.objs.length by omega) ?_
    dsimp only [St.put, rn, rns, rid, rnH, rnB, dead, AV.cells, setAt, enumEnv, List.length_nil, List.length_cons, List.getElem?_nil, List.getElem?_cons_zero, List.getElem?_cons_succ, Nat.reduceAdd, Nat.reduceSub, Nat.add_zero]
    show brk _ _ _
    refine And.intro (fun hh => ?_) (fun hh => ?_)
    · have hhd : (s.objs.getD (pos s.objs name) ob0).had = false := by
        rw [Nat.zero_add] at hh
        cases e : (s.objs.getD (pos s.objs name) ob0).had with
        | false => rfl
        | true => rw [e] at hh; cases hh
      refine And.intro (Nat.le_of_eq (Nat.zero_add _)) ?_
      refine And.intro rfl ?_
      unfold get
      rw [if_neg (fun h => h hc0), if_neg (fun h => h hN), if_neg n4, if_pos (.inr (.inr ⟨f3, hhd⟩))]
      exact last _ _
    · have hhd : ¬ (s.objs.getD (pos s.objs name) ob0).had = false := fun e => by
        rw [Nat.zero_add, e] at hh
        cases hh
      show aops _ _ _ _
      show brk _ _ _
      refine And.intro (fun _ => ?_) (fun h => by rw [h3] at h; cases h)
      refine Exists.intro (pos s.objs name) ?_
      refine And.intro rfl ?_
      refine And.intro hlt ?_
      refine And.intro (show 0 + pos s.objs name < s.objs.length by omega) ?_
      dsimp only [St.put, rn, rns, rid, rnH, rnB, dead, AV.cells, setAt, enumEnv, List.length_nil, List.length_cons, List.getElem?_nil, List.getElem?_cons_zero, List.getElem?_cons_succ, Nat.reduceAdd, Nat.reduceSub, Nat.add_zero]
      refine And.intro rfl ?_
      refine And.intro rfl ?_
      refine And.intro (Nat.le_of_eq (Nat.zero_add _)) ?_
      refine And.intro rfl ?_
      unfold get
      rw [if_neg (fun h => h hc0), if_neg (fun h => h hN), if_neg n4, if_neg (fun h => h.elim n1 fun h => h.elim (fun h => h hth) fun h => hhd h.2), if_pos f3]
      show AVle (.tup [_, .s (s.objs.getD (0 + pos s.objs name) ob0).was, _]) _
      rw [Nat.zero_add (pos s.objs name)]
      exact last _ _
  · have f3 : ¬ fateOf s = 3 := fun e => by rw [e] at h3; cases h3
    dsimp only [St.put, rn, rns, rid, rnH, rnB, dead, AV.cells, setAt, enumEnv, List.length_nil, List.length_cons, List.getElem?_nil, List.getElem?_cons_zero, List.getElem?_cons_succ, Nat.reduceAdd, Nat.reduceSub, Nat.add_zero]
    show aops _ _ _ _
    show brk _ _ _
    refine And.intro (fun h => by rw [h3] at h; cases h) (fun _ => ?_)
    show aops _ _ _ _
    show brk _ _ _
    refine And.intro (fun h2 => ?_) (fun h2 => ?_)
    · have f2 : fateOf s = 2 := eq_of_beq h2
      refine Exists.intro (pos s.objs name) ?_
      refine And.intro rfl ?_
      refine And.intro hlt ?_
      refine And.intro (show 0 + pos s.objs name < s.objs.length by omega) ?_
      dsimp only [St.put, rn, rns, rid, rnH, rnB, dead, AV.cells, setAt, enumEnv, List.length_nil, List.length_cons, List.getElem?_nil, List.getElem?_cons_zero, List.getElem?_cons_succ, Nat.reduceAdd, Nat.reduceSub, Nat.add_zero]
      refine XCall.lenv (flip28 (s.objs.getD (0 + pos s.objs name) ob0).data (by rw [Nat.zero_add]; omega)) rfl ?_
      refine And.intro rfl (And.intro (AVles.refl _) ?_)
      dsimp only [St.put, rn, rns, rid, rnH, rnB, dead, AV.cells, setAt, enumEnv, List.length_nil, List.length_cons, List.getElem?_nil, List.getElem?_cons_zero, List.getElem?_cons_succ, Nat.reduceAdd, Nat.reduceSub, Nat.add_zero]
      refine And.intro rfl ?_
      refine And.intro (Nat.le_of_eq (Nat.zero_add _)) ?_
      refine And.intro rfl ?_
      unfold get
      rw [if_neg (fun h => h hc0), if_neg (fun h => h hN), if_neg n4, if_neg (fun h => h.elim n1 fun h => h.elim (fun h => h hth) fun h => f3 h.1), if_neg f3, if_pos f2]
      show AVle (.tup [_, .s (flip (s.objs.getD (0 + pos s.objs name) ob0).data), _]) _
      rw [Nat.zero_add (pos s.objs name)]
      exact last _ _
    · have f2 : ¬ fateOf s = 2 := fun e => by rw [e] at h2; cases h2
      refine Exists.intro (pos s.objs name) ?_
      refine And.intro rfl ?_
      refine And.intro hlt ?_
      refine And.intro (show 0 + pos s.objs name < s.objs.length by omega) ?_
      dsimp only [St.put, rn, rns, rid, rnH, rnB, dead, AV.cells, setAt, enumEnv, List.length_nil, List.length_cons, List.getElem?_nil, List.getElem?_cons_zero, List.getElem?_cons_succ, Nat.reduceAdd, Nat.reduceSub, Nat.add_zero]
      refine And.intro rfl ?_
      refine And.intro rfl ?_
      refine And.intro (Nat.le_of_eq (Nat.zero_add _)) ?_
      refine And.intro rfl ?_
      unfold get
      rw [if_neg (fun h => h hc0), if_neg (fun h => h hN), if_neg n4, if_neg (fun h => h.elim n1 fun h => h.elim (fun h => h hth) fun h => f3 h.1), if_neg f3, if_neg f2]
      show AVle (.tup [_, .s (s.objs.getD (0 + pos s.objs name) ob0).data, _]) _
      rw [Nat.zero_add (pos s.objs name)]
      exact last _ _
end Go.Proofs.T

namespace Go.Proofs.T
open Go Go.Hb

/-- Begins it so? -/
def pre (s p : ByteArray) : Bool := decide (p.size ≤ s.size) && ((s.extract 0 p.size).toList == p.toList)
theorem pre43 (s p : ByteArray) : Pure Tryz.prog 123 [.s s, .s p] (fun r => r = .b (pre s p)) := by
  refine Pure.weak (Post := fun r => AVle r (.b (pre s p))) (Pure.of (XCall.body is123 rfl ?_)) fun r h => ⟨_, rfl, h⟩
  refine brk.mk (fun h => ?_) (fun h => ?_)
  · have hle : p.size ≤ s.size := by have := of_decide_eq_true h; omega
    refine Exists.intro p.size ?_
    refine And.intro rfl ?_
    refine And.intro hle ?_
    refine And.intro rfl ?_
    refine AVle.of_eq (congrArg AV.b ?_)
    unfold pre
    rw [decide_eq_true hle]
    rfl
  · have hle : ¬ p.size ≤ s.size := by have := of_decide_eq_false h; omega
    refine And.intro rfl ?_
    unfold pre
    rw [decide_eq_false hle]
    exact AVle.ff
theorem pre30 (s p : ByteArray) : Pure Tryz.prog 91 [.s s, .s p] (fun r => r = .b (pre s p)) := by
  refine Pure.of (XCall.body is91 rfl ?_)
  refine XCall.lenv (pre43 s p) rfl ?_
  exact ⟨rfl, AVles.refl _, rfl, rfl⟩

/-- Is its name told? -/
def keep (f : Int) (front : ByteArray) (x : Ob) : Bool := pre x.name front && (f != 3 || x.had)
def names (f : Int) (front : ByteArray) (l : List Ob) : List ByteArray := (l.filter (keep f front)).map (·.name)
def cellN (ns : List ByteArray) (i _j : Nat) : CV := .s (ns.getD i ⟨#[]⟩)
def lAV (ns : List ByteArray) : AV := .fs ns.length 1 (cellN ns)
def namesOf (s : Sh) (front : ByteArray) : Sh × List ByteArray × Int :=
  if check s.objs ≠ 0 then (s, [], check s.objs)
  else if fateOf s = 4 then (⟨s.objs, s.fates.tail⟩, [], 17)
  else if fateOf s = 1 then (⟨s.objs, s.fates.tail⟩, [], 0)
  else (⟨s.objs, s.fates.tail⟩, names (fateOf s) front s.objs, 0)
def nAV (r : Sh × List ByteArray × Int) : AV := .tup [sAV r.1, lAV r.2.1, .i .i64 r.2.2]
theorem take_one {l : List Ob} {i : Nat} (hi : i < l.length) : l.take (i + 1) = l.take i ++ [l.getD i ob0] := by
  rw [List.take_add_one, List.getD_eq_getElem?_getD, List.getElem?_eq_getElem hi]
  rfl
theorem names_one {f : Int} {front : ByteArray} {l : List Ob} {i : Nat} (hi : i < l.length) : names f front (l.take (i + 1)) = names f front (l.take i) ++ (match keep f front (l.getD i ob0) with
    | true => [(l.getD i ob0).name]
    | false => []) := by
  rw [take_one hi]
  unfold names
  rw [List.filter_append, List.map_append]
  congr 1
  cases h : keep f front (l.getD i ob0) with
  | true => rw [List.filter_cons_of_pos h]; rfl
  | false => rw [List.filter_cons_of_neg (by rw [h]; decide)]; rfl
theorem names_len {f : Int} {front : ByteArray} {l : List Ob} (i : Nat) : (names f front (l.take i)).length ≤ i := by
  unfold names
  rw [List.length_map]
  exact Nat.le_trans (List.length_filter_le _ _) (by simp; omega)
theorem appN (ns : List ByteArray) (x : ByteArray) : ∀ a j, a < (ns ++ [x]).length → j < 1 → appCell ns.length (cellN ns) (listCell 1 [.s x]) a j = cellN (ns ++ [x]) a j := by
  intro a j ha hj
  have ha' : a < ns.length + 1 := by simpa using ha
  obtain rfl : j = 0 := by omega
  by_cases h : a < ns.length
  · rw [appCell_old h]
    unfold cellN
    rw [List.getD_eq_getElem?_getD, List.getD_eq_getElem?_getD, List.getElem?_append_left h]
  · obtain rfl : a = ns.length := by omega
    rw [appCell_new (by omega), Nat.sub_self]
    unfold cellN
    rw [List.getD_eq_getElem?_getD, List.getElem?_append_right (Nat.le_refl _), Nat.sub_self]
    rfl

theorem names14 (s : Sh) (front : ByteArray) (hl : Small s) : Pure Tryz.prog 54 [sAV s, .s front] (fun r => r = nAV (namesOf s front)) := by
  refine Pure.weak (Post := fun r => AVle r (nAV (namesOf s front))) (Pure.of (XCall.body is54 rfl ?_)) fun r h => ⟨_, rfl, h⟩
  refine XCall.lenv (check17 s hl.1) rfl ?_
  refine And.intro rfl (And.intro (AVles.refl _) ?_)
  dsimp only [St.put, rn, rns, rid, rnH, rnB, dead, AV.cells, setAt, enumEnv, List.length_nil, List.length_cons, List.getElem?_nil, List.getElem?_cons_zero, List.getElem?_cons_succ, Nat.reduceAdd, Nat.reduceSub, Nat.add_zero]
  show aops _ _ _ _
  refine brk.mk (fun hc => ?_) (fun hc => ?_)
  · have hc0 : check s.objs ≠ 0 := fun e => by rw [e] at hc; cases hc
    refine XCall.givv (same24 s hl) ?_
    refine And.intro rfl (And.intro (AVles.refl _) ?_)
    refine And.intro rfl ?_
    unfold namesOf
    rw [if_pos hc0]
    exact AVle.tup (AVles.cons (AVle.refl _) (AVles.cons (AVle.nils _ _) (AVles.refl _)))
  have hc0 : check s.objs = 0 := by
    cases e : (check s.objs != 0) with
    | true => rw [e] at hc; cases hc
    | false => simpa using e
  dsimp only [St.put, rn, rns, rid, rnH, rnB, dead, AV.cells, setAt, enumEnv, List.length_nil, List.length_cons, List.getElem?_nil, List.getElem?_cons_zero, List.getElem?_cons_succ, Nat.reduceAdd, Nat.reduceSub, Nat.add_zero]
  refine XCall.frame0 (next26 s hl) rfl rfl ?_
  dsimp only [St.put, rn, rns, rid, rnH, rnB, dead, AV.cells, setAt, enumEnv, List.length_nil, List.length_cons, List.getElem?_nil, List.getElem?_cons_zero, List.getElem?_cons_succ, Nat.reduceAdd, Nat.reduceSub, Nat.add_zero]
  have leaf : AVle (.agg [.fs s.objs.length 4 fun i j => cellO s.objs (0 + i) j, fAV s.fates.tail]) (sAV ⟨s.objs, s.fates.tail⟩) := AVle.agg (AVles.cons AVle.fs0 (AVles.refl _))
  have last0 : ∀ (e : Int), AVle (.tup [.agg [.fs s.objs.length 4 fun i j => cellO s.objs (0 + i) j, fAV s.fates.tail], .nils, .i .i64 e]) (nAV (⟨s.objs, s.fates.tail⟩, [], e)) := fun e => AVle.tup (AVles.cons leaf (AVles.cons (AVle.nils _ _) (AVles.refl _)))
  show aops _ _ _ _
  refine brk.mk (fun h4 => ?_) (fun h4 => ?_)
  · refine And.intro (Nat.le_of_eq (Nat.zero_add _)) ?_
    refine And.intro rfl ?_
    unfold namesOf
    rw [if_neg (fun h => h hc0), if_pos (eq_of_beq h4)]
    exact last0 _
  have n4 : ¬ fateOf s = 4 := fun e => by rw [e] at h4; cases h4
  dsimp only [St.put, rn, rns, rid, rnH, rnB, dead, AV.cells, setAt, enumEnv, List.length_nil, List.length_cons, List.getElem?_nil, List.getElem?_cons_zero, List.getElem?_cons_succ, Nat.reduceAdd, Nat.reduceSub, Nat.add_zero]
  show aops _ _ _ _
  refine brk.mk (fun h1 => ?_) (fun h1 => ?_)
  · refine And.intro (Nat.le_of_eq (Nat.zero_add _)) ?_
    refine And.intro rfl ?_
    unfold namesOf
    rw [if_neg (fun h => h hc0), if_neg n4, if_pos (eq_of_beq h1)]
    exact last0 _
  have n1 : ¬ fateOf s = 1 := fun e => by rw [e] at h1; cases h1
  dsimp only [St.put, rn, rns, rid, rnH, rnB, dead, AV.cells, setAt, enumEnv, List.length_nil, List.length_cons, List.getElem?_nil, List.getElem?_cons_zero, List.getElem?_cons_succ, Nat.reduceAdd, Nat.reduceSub, Nat.add_zero]
  show awp _ (.loop _) _ _
  dsimp only [St.put, rn, rns, rid, rnH, rnB, dead, AV.cells, setAt, enumEnv, List.length_nil, List.length_cons, List.getElem?_nil, List.getElem?_cons_zero, List.getElem?_cons_succ, Nat.reduceAdd, Nat.reduceSub, Nat.add_zero]
  refine loop.mk (fun σ => ∃ (i : Nat) (ns : List ByteArray), i ≤ s.objs.length ∧ ns = names (fateOf s) front (s.objs.take i) ∧
    σ = ⟨[(1, .s front), (4, .p 1 0), (8, .p 9 0), (9, .i .i64 (fateOf s)), (10, .sl 10 1 0 ns.length), (33, .sl 5 4 0 s.objs.length), (34, .i .i64 (s.objs.length : Int)), (35, .i .i64 (i : Int))],
      [(1, .lit [.nils, .nils]), (5, .rows s.objs.length 4 (cellO s.objs)), (9, .lit [.sl 5 4 0 s.objs.length, fAV s.fates.tail]), (10, .rows ns.length 1 (cellN ns))], 11⟩) (fun σ => (s.objs.length - num 35 σ).toNat) ?_ ?_
  · refine ⟨_, Le.trans (Le.nils (t := 10) (size := 1) (cell := cellN []) rfl) (Le.mk ?_ ?_ rfl rfl), 0, [], Nat.zero_le _, rfl, rfl⟩
    · exact ⟨rfl, rfl, rfl, rfl, rfl, rfl, rfl, rfl, trivial⟩
    · exact ⟨BlkLe.refl _ rfl, BlkLe.refl _ rfl, rfl, BlkLe.refl _ rfl, trivial⟩
  rintro σ' ⟨i, ns, hi, hns, rfl⟩
  have hbig := hl.1
  show aops _ _ _ _
  refine brk.mk (fun hc => ?_) (fun hc => ?_)
  · have hlt : i < s.objs.length := by have := of_decide_eq_true hc; omega
    have hwrap : IntKind.i64.wrap ((i : Int) + 1) = ((i + 1 : Nat) : Int) := by rw [wrap_int (by omega) (by omega)]; omega
    have hnl : ns.length ≤ i := by rw [hns]; exact names_len i
    have cont : keep (fateOf s) front (s.objs.getD (0 + i) ob0) = true → ns ++ [(s.objs.getD (0 + i) ob0).name] = names (fateOf s) front (s.objs.take (i + 1)) := fun hk => by
      rw [Nat.zero_add] at hk ⊢
      rw [names_one hlt, ← hns, hk]
    have cont0 : keep (fateOf s) front (s.objs.getD (0 + i) ob0) = false → ns = names (fateOf s) front (s.objs.take (i + 1)) := fun hk => by
      rw [Nat.zero_add] at hk
      rw [names_one hlt, ← hns, hk, List.append_nil]
    refine Exists.intro i ?_
    refine And.intro rfl ?_
    refine And.intro hlt ?_
    refine And.intro (show 0 + i < s.objs.length by omega) ?_
    dsimp only [St.put, rn, rns, rid, rnH, rnB, dead, AV.cells, setAt, enumEnv, List.length_nil, List.length_cons, List.getElem?_nil, List.getElem?_cons_zero, List.getElem?_cons_succ, Nat.reduceAdd, Nat.reduceSub, Nat.add_zero]
    refine XCall.lenv (pre30 (s.objs.getD (0 + i) ob0).name front) rfl ?_
    refine And.intro rfl (And.intro (AVles.refl _) ?_)
    dsimp only [St.put, rn, rns, rid, rnH, rnB, dead, AV.cells, setAt, enumEnv, List.length_nil, List.length_cons, List.getElem?_nil, List.getElem?_cons_zero, List.getElem?_cons_succ, Nat.reduceAdd, Nat.reduceSub, Nat.add_zero]
    show aops _ _ _ _
    refine brk.mk (fun hp => ?_) (fun hp => ?_)
    · refine brk.mk (fun h3 => ?_) (fun h3 => ?_)
      · dsimp only [St.put, rn, rns, rid, rnH, rnB, dead, AV.cells, setAt, enumEnv, List.length_nil, List.length_cons, List.getElem?_nil, List.getElem?_cons_zero, List.getElem?_cons_succ, Nat.reduceAdd, Nat.reduceSub, Nat.add_zero]
        refine And.intro (Nat.le_refl _) ?_
        refine And.intro (show (ns.length + 1) * 16 ≤ 140737488355328 by omega) ?_
        dsimp only [St.put, rn, rns, rid, rnH, rnB, dead, AV.cells, setAt, enumEnv, List.length_nil, List.length_cons, List.getElem?_nil, List.getElem?_cons_zero, List.getElem?_cons_succ, Nat.reduceAdd, Nat.reduceSub, Nat.add_zero]
        refine ⟨_, Le.trans (Le.swap 10 13 (by decide) (by decide) (by decide : 10 < 14) (by decide : 13 < 14)) (Le.mk ?_ ?_ rfl rfl), ⟨i + 1, ns ++ [(s.objs.getD (0 + i) ob0).name], hlt, cont ?_, rfl⟩, ?_⟩
        · exact ⟨rfl, rfl, rfl, rfl, congrArg (AV.sl 10 1 0) (by simp), rfl, rfl, congrArg (AV.i .i64) hwrap, trivial⟩
        · exact ⟨rfl, BlkLe.refl _ rfl, rfl, BlkLe.rows (by simp) (appN ns _), trivial⟩
        · unfold keep; rw [hp, h3]; rfl
        · show (_ - ((i + 1 : Nat) : Int)).toNat < (_ - (i : Int)).toNat
          omega
      · refine brk.mk (fun hh => ?_) (fun hh => ?_)
        · dsimp only [St.put, rn, rns, rid, rnH, rnB, dead, AV.cells, setAt, enumEnv, List.length_nil, List.length_cons, List.getElem?_nil, List.getElem?_cons_zero, List.getElem?_cons_succ, Nat.reduceAdd, Nat.reduceSub, Nat.add_zero]
          refine And.intro (Nat.le_refl _) ?_
          refine And.intro (show (ns.length + 1) * 16 ≤ 140737488355328 by omega) ?_
          dsimp only [St.put, rn, rns, rid, rnH, rnB, dead, AV.cells, setAt, enumEnv, List.length_nil, List.length_cons, List.getElem?_nil, List.getElem?_cons_zero, List.getElem?_cons_succ, Nat.reduceAdd, Nat.reduceSub, Nat.add_zero]
          refine ⟨_, Le.trans (Le.swap 10 13 (by decide) (by decide) (by decide : 10 < 14) (by decide : 13 < 14)) (Le.mk ?_ ?_ rfl rfl), ⟨i + 1, ns ++ [(s.objs.getD (0 + i) ob0).name], hlt, cont ?_, rfl⟩, ?_⟩
          · exact ⟨rfl, rfl, rfl, rfl, congrArg (AV.sl 10 1 0) (by simp), rfl, rfl, congrArg (AV.i .i64) hwrap, trivial⟩
          · exact ⟨rfl, BlkLe.refl _ rfl, rfl, BlkLe.rows (by simp) (appN ns _), trivial⟩
          · unfold keep; rw [hp, hh, Bool.or_true]; rfl
          · show (_ - ((i + 1 : Nat) : Int)).toNat < (_ - (i : Int)).toNat
            omega
        · dsimp only [St.put, rn, rns, rid, rnH, rnB, dead, AV.cells, setAt, enumEnv, List.length_nil, List.length_cons, List.getElem?_nil, List.getElem?_cons_zero, List.getElem?_cons_succ, Nat.reduceAdd, Nat.reduceSub, Nat.add_zero]
          refine ⟨_, Le.mk ?_ ?_ rfl rfl, ⟨i + 1, ns, hlt, cont0 ?_, rfl⟩, ?_⟩
          · exact ⟨rfl, rfl, rfl, rfl, rfl, rfl, rfl, congrArg (AV.i .i64) hwrap, trivial⟩
          · exact ⟨rfl, BlkLe.refl _ rfl, rfl, BlkLe.refl _ rfl, trivial⟩
          · unfold keep; rw [hp, h3, hh]; rfl
          · show (_ - ((i + 1 : Nat) : Int)).toNat < (_ - (i : Int)).toNat
            omega
    · dsimp only [St.put, rn, rns, rid, rnH, rnB, dead, AV.cells, setAt, enumEnv, List.length_nil, List.length_cons, List.getElem?_nil, List.getElem?_cons_zero, List.getElem?_cons_succ, Nat.reduceAdd, Nat.reduceSub, Nat.add_zero]
      refine ⟨_, Le.mk ?_ ?_ rfl rfl, ⟨i + 1, ns, hlt, cont0 ?_, rfl⟩, ?_⟩
      · exact ⟨rfl, rfl, rfl, rfl, rfl, rfl, rfl, congrArg (AV.i .i64) hwrap, trivial⟩
      · exact ⟨rfl, BlkLe.refl _ rfl, rfl, BlkLe.refl _ rfl, trivial⟩
      · unfold keep; rw [hp]; rfl
      · show (_ - ((i + 1 : Nat) : Int)).toNat < (_ - (i : Int)).toNat
        omega
  · have hin : i = s.objs.length := by have := of_decide_eq_false hc; omega
    subst hin
    refine And.intro (Nat.le_of_eq (Nat.zero_add _)) ?_
    refine And.intro (Nat.le_of_eq (Nat.zero_add _)) ?_
    refine And.intro rfl ?_
    unfold namesOf
    rw [if_neg (fun h => h hc0), if_neg n4, if_neg n1]
    rw [List.take_length] at hns
    rw [← hns]
    exact AVle.tup (AVles.cons leaf (AVles.cons AVle.fs0 (AVles.refl _)))
end Go.Proofs.T

namespace Go.Proofs.T
open Go Go.Hb

/-! Decimal numbers -/
def decB (n : Int) : ByteArray := ⟨(Lib.itoa n).toArray⟩
theorem dec_digit : ∀ (u : Nat), ∀ c ∈ Lib.decDigits u, 48 ≤ c.toNat ∧ c.toNat ≤ 57 := by
  intro u
  induction u using Nat.strongRecOn with
  | _ u ih =>
    rw [Lib.decDigits]
    split
    · intro c hc
      simp only [List.mem_cons, List.not_mem_nil, or_false] at hc
      subst hc
      rw [UInt8.toNat_ofNat']
      omega
    · intro c hc
      rcases List.mem_append.1 hc with h | h
      · exact ih (u / 10) (by omega) c h
      · simp only [List.mem_cons, List.not_mem_nil, or_false] at h
        subst h
        rw [UInt8.toNat_ofNat']
        omega
theorem dec_ne (u : Nat) : Lib.decDigits u ≠ [] := by
  rw [Lib.decDigits]
  split <;> simp
theorem parse_dec (M : Nat) (hM : M ≤ 18446744073709551615) : ∀ (u : Nat) (r : List UInt8), u ≤ M → Lib.parseUintM M 0 (Lib.decDigits u ++ r) = Lib.parseUintM M u r := by
  intro u
  induction u using Nat.strongRecOn with
  | _ u ih =>
    intro r hu
    have step : ∀ (a d : Nat) (r : List UInt8), d < 10 → a * 10 + d ≤ M → Lib.parseUintM M a (UInt8.ofNat (48 + d) :: r) = Lib.parseUintM M (a * 10 + d) r := by
      intro a d r hd ha
      rw [Lib.parseUintM]
      have e : (UInt8.ofNat (48 + d)).toNat = 48 + d := by rw [UInt8.toNat_ofNat']; omega
      rw [e, if_pos (by omega), if_neg (by omega), show 48 + d - 48 = d by omega, if_neg (by omega)]
    rw [Lib.decDigits]
    split
    · rename_i h
      have := step 0 u r h (by omega)
      simpa using this
    · rename_i h
      rw [List.append_assoc, ih (u / 10) (by omega) _ (by omega)]
      show Lib.parseUintM M (u / 10) (UInt8.ofNat (48 + u % 10) :: r) = _
      rw [step (u / 10) (u % 10) r (by omega) (by omega)]
      rw [show u / 10 * 10 + u % 10 = u by omega]
theorem parse_itoa (n : Nat) (hn : n ≤ 1099511627776) : Lib.parseIntB 64 (Lib.itoa (n : Int)) = .ok (n : Int) := by
  have e : Lib.itoa (n : Int) = Lib.decDigits n := by unfold Lib.itoa; rw [if_neg (by omega)]; simp
  rw [e]
  have hp := parse_dec (2 ^ 64 - 1) (by decide) n [] (by omega)
  rw [List.append_nil] at hp
  cases h : Lib.decDigits n with
  | nil => exact absurd h (dec_ne n)
  | cons c r =>
    have hc := dec_digit n c (by rw [h]; simp)
    unfold Lib.parseIntB
    simp only
    rw [if_neg (by omega)]
    unfold Lib.parseUintB
    rw [if_neg (by simp), ← h, hp]
    simp only [Lib.parseUintM]
    rw [if_neg (by omega), if_neg (by omega), if_neg (by omega)]
theorem parse_range {l : List UInt8} {v : Int} (h : Lib.parseIntB 64 l = .ok v) : -9223372036854775808 ≤ v ∧ v ≤ 9223372036854775807 := by
  unfold Lib.parseIntB at h
  cases l with
  | nil => cases h
  | cons c r =>
    simp only at h
    split at h
    · cases h
    · cases h
    · rename_i u _
      split at h
      · cases h
      · rename_i h1
        split at h
        · cases h
        · rename_i h2
          simp only [Lib.NumEnd.ok.injEq] at h
          subst h
          split <;> omega

theorem dec37 (n : Int) (h0 : -9223372036854775808 ≤ n) (h1 : n ≤ 9223372036854775807) : Pure Tryz.prog 37 [.i .i64 n] (fun r => r = .s (decB n)) := by
  refine Pure.weak (Post := fun v => AVle v (.s (decB n))) (Pure.of (XCall.bodyw is37 rfl ?_)) fun r h => ⟨_, rfl, h⟩
  unfold m37
  refine aW ?_
  refine XCall.lenv (format75 n h0 h1) rfl ?_
  refine And.intro rfl (And.intro (AVles.refl _) ?_)
  refine aW ?_
  refine Rq.rt ?_
  exact And.intro rfl (AVle.refl _)

def intF (s : ByteArray) : Int × Bool := match Lib.parseIntB 64 s.data.toList with
  | .ok v => if decB v = s then (v, true) else (0, false)
  | _ => (0, false)
theorem intF_dec (n : Nat) (hn : n ≤ 1099511627776) : intF (decB n) = ((n : Int), true) := by
  unfold intF
  rw [show (decB (n : Int)).data.toList = Lib.itoa (n : Int) by simp [decB], parse_itoa n hn]
  simp
theorem int82 (s : ByteArray) (hs : s.size ≤ 281474976710656) : Pure Tryz.prog 82 [.s s] (fun r => r = .tup [.i .i64 (intF s).1, .b (intF s).2]) := by
  refine Pure.weak (Post := fun v => AVle v (.tup [.i .i64 (intF s).1, .b (intF s).2])) (Pure.of (XCall.bodyw is82 rfl ?_)) fun r h => ⟨_, rfl, h⟩
  unfold m82
  refine aW ?_
  have hp := parse114 s hs
  cases hq : Lib.parseIntB 64 s.data.toList with
  | ok v =>
    rw [hq] at hp
    have hv := parse_range hq
    refine XCall.lenv hp rfl ?_
    refine And.intro rfl (And.intro (AVles.refl _) ?_)
    refine aW ?_
    refine brk.mk (fun hn => ?_) (fun hn => ?_)
    · cases hn
    refine aW ?_
    refine XCall.lenv (dec37 v hv.1 hv.2) rfl ?_
    refine And.intro rfl (And.intro (AVles.refl _) ?_)
    refine aW ?_
    refine brk.mk (fun hc => ?_) (fun hc => ?_)
    · have hne : ¬ decB v = s := fun e => by rw [e] at hc; simp at hc
      refine aW ?_
      refine Rq.rt ?_
      refine And.intro rfl ?_
      unfold intF
      rw [hq]
      simp only [if_neg hne]
      exact AVle.tup (AVles.cons (AVle.refl _) (AVles.cons AVle.ff AVles.nil))
    · have he : decB v = s := by
        simp only [Bool.not_eq_false'] at hc
        rw [beq_iff] at hc
        exact of_decide_eq_true hc
      refine aW ?_
      refine Rq.rt ?_
      refine And.intro rfl ?_
      unfold intF
      rw [hq]
      simp only [if_pos he]
      exact AVle.tup (AVles.cons (AVle.refl _) (AVles.cons AVle.tt AVles.nil))
  | range =>
    rw [hq] at hp
    refine XCall.len ?_
    refine Exists.intro isFail (And.intro hp (And.intro rfl ?_))
    rintro r ⟨n, te, pe, rfl⟩
    refine And.intro rfl ?_
    refine aW ?_
    refine brk.mk (fun hn => ?_) (fun hn => ?_)
    rotate_left
    · cases hn
    refine aW ?_
    change awpW Tryz.prog (MC.seq _ _) _ _
    refine aW ?_
    refine Rq.rt ?_
    refine And.intro rfl ?_
    unfold intF
    rw [hq]
    exact AVle.tup (AVles.cons (AVle.refl _) (AVles.cons AVle.ff AVles.nil))
  | _ =>
    rw [hq] at hp
    refine XCall.len ?_
    refine Exists.intro isFail (And.intro hp (And.intro rfl ?_))
    rintro r ⟨n, te, pe, rfl⟩
    refine And.intro rfl ?_
    refine aW ?_
    refine brk.mk (fun hn => ?_) (fun hn => ?_)
    rotate_left
    · cases hn
    refine aW ?_
    change awpW Tryz.prog (MC.seq _ _) _ _
    refine aW ?_
    refine Rq.rt ?_
    refine And.intro rfl ?_
    unfold intF
    rw [hq]
    exact AVle.tup (AVles.cons (AVle.refl _) (AVles.cons AVle.ff AVles.nil))
end Go.Proofs.T

namespace Go.Proofs.T
open Go Go.Hb

theorem readG_n (b : ByteArray) : ∀ (i n : Nat), i ≤ 3 → n < 2 ^ (7 * i) → (readG b i n).1 < 268435456 := by
  intro i n
  induction hm : 4 - i using Nat.strongRecOn generalizing i n with
  | _ m ih =>
    intro hi hn
    rw [readG]
    have hp7 : 2 ^ (7 * (i + 1)) = 2 ^ (7 * i) * 128 := by rw [Nat.mul_add, Nat.pow_add]
    have hle : 2 ^ (7 * i) ≤ 2097152 := Nat.le_trans (Nat.pow_le_pow_right (by decide) (by omega : 7 * i ≤ 21)) (by decide)
    split
    · split
      · show 0 < _; decide
      · rename_i hnf
        have hX := byteN_lt b i
        have hle2 : byteN b i % 128 * 2 ^ (7 * i) ≤ 127 * 2 ^ (7 * i) := Nat.mul_le_mul_right _ (by omega)
        split
        · show n + byteN b i % 128 * 2 ^ (7 * i) < _
          omega
        · rename_i h128
          exact ih (4 - (i + 1)) (by omega) (i + 1) _ rfl (by omega) (by omega)
    · show 0 < _; decide

def tx2 (q : List ByteArray × Nat) : AV := .tup [lAV q.1, .i .i64 ((q.2 : Nat) : Int)]
theorem texts_core (b : ByteArray) (hb : b.size ≤ 1099511627776) (T : List ByteArray × Nat) (hT : textsF b = T) : Pure Tryz.prog 81 [.s b] (fun r => r = tx2 T) := by
  refine Pure.weak (Post := fun v => AVle v (tx2 T)) (Pure.of (XCall.bodyw is81 rfl ?_)) fun r h => ⟨_, rfl, h⟩
  unfold m81
  refine aW ?_
  refine lpW.mk (fun σ => ∃ (f : Nat) (c : ByteArray) (acc : List ByteArray), c.size ≤ f ∧ acc.length + c.size ≤ b.size ∧ textsG f c acc = T ∧ σ = ⟨[(0, .s c), (2, .nils), (3, .i .i64 0), (4, .sl 0 1 0 acc.length)], [(0, .rows acc.length 1 (cellN acc))], 1⟩) (fun σ => match lk 0 σ.env with
    | some (.s c) => c.size
    | _ => 0) ?_ ?_
  · refine ⟨_, Le.trans (Le.nils (t := 4) (size := 1) (cell := cellN []) rfl) (Le.mk ?_ ?_ rfl rfl), b.size, b, [], Nat.le_refl _, by simp, hT, rfl⟩
    · exact ⟨rfl, rfl, rfl, rfl, trivial⟩
    · exact ⟨BlkLe.refl _ rfl, trivial⟩
  rintro σ' ⟨f, c, acc, hf, hacc, hT, rfl⟩
  refine aW ?_
  refine brk.mk (fun hc => ?_) (fun hc => ?_)
  · have hc0 : ¬ c.size = 0 := fun e => by
      rw [beq_iff, decide_eq_true (ba_nil e)] at hc
      cases hc
    cases f with
    | zero => omega
    | succ f =>
      unfold textsG at hT
      rw [if_neg hc0] at hT
      refine aW ?_
      refine XCall.lenv (read113 c (by omega)) rfl ?_
      refine And.intro rfl (And.intro (AVles.refl _) ?_)
      have hn28 := readG_n c 0 0 (by decide) (by decide)
      have hok := @readG_ok c 0 0
      generalize readG c 0 0 = q at *
      obtain ⟨n, k, e⟩ := q
      simp only at hT hn28 hok
      refine aW ?_
      refine brk.mk (fun he => ?_) (fun he => ?_)
      · have he' : e ≠ 0 := fun h => by rw [h] at he; simp at he
        rw [if_pos he'] at hT
        refine aW ?_
        refine Rq.rt ?_
        refine And.intro rfl ?_
        rw [← hT]
        exact AVle.tup (AVles.cons (AVle.nils 1 _) (AVles.refl _))
      have he' : e = 0 := by have := (by simpa using he : (e : Int) = 0); omega
      rw [if_neg (fun h => h he')] at hT
      have hk := hok he'
      have wk : IntKind.i64.wrap ((c.size : Int) - (k : Int)) = ((c.size - k : Nat) : Int) := by rw [wrap_int (by omega) (by omega)]; omega
      refine aW ?_
      refine brk.mk (fun hs => ?_) (fun hs => ?_)
      · have hs' : c.size - k < n := by have := of_decide_eq_true hs; rw [wk] at this; omega
        rw [if_pos hs'] at hT
        refine aW ?_
        refine Rq.rt ?_
        refine And.intro rfl ?_
        rw [← hT]
        exact AVle.tup (AVles.cons (AVle.nils 1 _) (AVles.refl _))
      have hs' : ¬ c.size - k < n := by have := of_decide_eq_false hs; rw [wk] at this; omega
      rw [if_neg hs'] at hT
      have wkn : IntKind.i64.wrap ((k : Int) + (n : Int)) = ((k + n : Nat) : Int) := by rw [wrap_int (by omega) (by omega)]; omega
      refine aW ?_
      refine Exists.intro k (Exists.intro (k + n) (And.intro rfl (And.intro wkn (And.intro (by omega) (And.intro (by omega) ?_)))))
      refine And.intro (Nat.le_refl _) ?_
      refine And.intro (show (acc.length + 1) * 16 ≤ 140737488355328 by omega) ?_
      refine aW ?_
      refine Exists.intro (k + n) (And.intro wkn (And.intro (show k + n ≤ c.size by omega) ?_))
      refine Bq.nx ?_
      have hsz : (c.extract (k + n) c.size).size = c.size - (k + n) := by rw [ByteArray.size_extract]; omega
      refine Lq.nx _ (Le.trans (Le.swap 0 2 (by decide) (by decide) (by decide : 0 < 3) (by decide : 2 < 3)) (Le.mk ?_ ?_ rfl rfl)) ⟨f, c.extract (k + n) c.size, acc ++ [c.extract k (k + n)], by omega, by rw [hsz, List.length_append]; simp only [List.length_cons, List.length_nil]; omega, hT, rfl⟩ ?_
      · exact ⟨rfl, rfl, rfl, congrArg (AV.sl 0 1 0) (by simp), trivial⟩
      · exact ⟨BlkLe.rows (by simp) (appN acc _), trivial⟩
      · show (c.extract (k + n) c.size).size < c.size
        omega
  · have hc0 : c.size = 0 := by
      simp only [Bool.not_eq_false'] at hc
      rw [beq_iff] at hc
      rw [of_decide_eq_true hc]
      rfl
    have hT' : (acc, 0) = T := by
      rw [← hT]
      cases f with
      | zero => rfl
      | succ f => unfold textsG; rw [if_pos hc0]
    refine aW ?_
    refine Rq.rt ?_
    refine And.intro (show 0 + acc.length ≤ acc.length by omega) ?_
    refine And.intro rfl ?_
    rw [← hT']
    exact AVle.tup (AVles.cons AVle.fs0 (AVles.refl _))
theorem texts81 (b : ByteArray) (hb : b.size ≤ 1099511627776) : Pure Tryz.prog 81 [.s b] (fun r => r = tx2 (textsF b)) := texts_core b hb _ rfl
end Go.Proofs.T

namespace Go.Proofs.T
open Go Go.Hb

def feA (c : CV) : AV := .fe 1 (fun j => [c].getD j (.b false)) 0
def hibs : ByteArray := ⟨#[104, 105, 98, 115]⟩
def seven (a b c d e f : ByteArray) : List ByteArray := [hibs, a, b, c, d, e, f]
theorem post47 (i : Int) (data : ByteArray) : Pure Tryz.prog 47 [.i .i64 i, feA (.s data)] (fun r => r = .s data) := by
  refine Pure.weak (Post := fun v => AVle v (.s data)) (Pure.of (XCall.bodyw is47 rfl ?_)) fun r h => ⟨_, rfl, h⟩
  unfold m47
  refine aW ?_
  refine Rq.rt ?_
  exact And.intro rfl (AVle.refl _)

theorem one_of (x : ByteArray) : AVle (.fs 1 1 (listCell 1 [.s x])) (one x) := AVle.fs fun a j ha hj => by
  obtain rfl : a = 0 := by omega
  obtain rfl : j = 0 := by omega
  rfl
theorem seven_of (a b c d e f : ByteArray) : AVle (.fs 7 1 (listCell 1 [.s hibs, .s a, .s b, .s c, .s d, .s e, .s f])) (.fs 7 1 fun i _ => .s ((seven a b c d e f).getD i ⟨#[]⟩)) := AVle.fs fun i j hi hj => by
  obtain rfl : j = 0 := by omega
  obtain rfl | rfl | rfl | rfl | rfl | rfl | rfl : i = 0 ∨ i = 1 ∨ i = 2 ∨ i = 3 ∨ i = 4 ∨ i = 5 ∨ i = 6 := by omega
  all_goals rfl
set_option maxHeartbeats 4000000 in
theorem row_core (name data p D1 D2 R : ByteArray) (T1 T2 : Nat → Int) (i : Nat) (parts : Nat → Nat → CV) (hi : i < 5) (hp : parts i 1 = .s p)
    (h1 : Pure Tryz.prog 37 [.i .i64 (data.size : Int)] (fun r => r = .s D1)) (h2 : Pure Tryz.prog 37 [.i .i64 ((i + 1 : Nat) : Int)] (fun r => r = .s D2))
    (h3 : Pure Tryz.prog 39 [one data] (fun r => r = .agg (d32 T1))) (h4 : Pure Tryz.prog 39 [one p] (fun r => r = .agg (d32 T2)))
    (h5 : Pure Tryz.prog 36 [.fs 7 1 fun i _ => .s ((seven name D1 D2 (rawB T1) (rawB T2) p).getD i ⟨#[]⟩)] (fun r => r = .s R)) :
    Pure Tryz.prog 35 [.i .i64 (i : Int), feA (.fs 5 2 parts), feA (.s name), feA (.s data)] (fun r => r = .s R) := by
  have w0 : IntKind.i64.wrap ((i : Int) + 1) = ((i + 1 : Nat) : Int) := by rw [wrap_int (by omega) (by omega)]; omega
  refine Pure.weak (Post := fun v => AVle v (.s R)) (Pure.of (XCall.bodyw is35 rfl ?_)) fun r h => ⟨_, rfl, h⟩
  unfold m35
  refine aW ?_
  refine Exists.intro i (And.intro rfl (And.intro hi ?_))
  have hup : (parts i 1).up = .s p := by rw [hp]; rfl
  refine SqW.le ⟨[(0, .i .i64 (i : Int)), (1, feA (.fs 5 2 parts)), (2, feA (.s name)), (3, feA (.s data)), (6, .s p)], [], 0⟩ (Le.mk ?_ ?_ rfl rfl) ?_
  · exact ⟨rfl, rfl, rfl, rfl, hup, trivial⟩
  · exact trivial
  with_reducible refine seqW.mk ?_
  refine And.intro ?_ ?_
  · refine XCall.lenv h1 rfl ?_
    refine And.intro rfl (And.intro (AVles.refl _) ?_)
    refine aN ?_
    refine And.intro ?_ ?_
    · refine XCall.lenv h2 rfl ?_
      refine And.intro rfl (And.intro (AVles.cons (AVle.of_eq (congrArg (AV.i .i64) w0)) AVles.nil) ?_)
      refine aN ?_
      refine And.intro ?_ ?_
      · refine And.intro ?_ ?_
        · refine XCall.lenv h3 rfl ?_
          refine And.intro rfl (And.intro (AVles.cons (one_of _) AVles.nil) ?_)
          refine aN ?_
          refine And.intro ?_ ?_
          · refine XCall.lenv (raw38 T1) rfl ?_
            refine And.intro rfl (And.intro (AVles.refl _) ?_)
            refine aN ?_
            refine XCall.lenv h4 rfl ?_
            refine And.intro rfl (And.intro (AVles.cons (one_of _) AVles.nil) ?_)
            refine aN ?_
            refine XCall.lenv (raw38 T2) rfl ?_
            refine And.intro rfl (And.intro (AVles.refl _) ?_)
            refine aN ?_
            refine XCall.lenv h5 rfl ?_
            refine And.intro rfl (And.intro (AVles.cons (seven_of _ _ _ _ _ _) AVles.nil) ?_)
            refine aN ?_
            refine SqW.nx ?_
            refine Rq.rt ?_
            exact And.intro rfl (AVle.refl _)
          · refine XCall.lenv (raw38 T1) rfl ?_
            refine And.intro rfl (And.intro (AVles.refl _) ?_)
            refine aN ?_
            refine XCall.lenv h4 rfl ?_
            refine And.intro rfl (And.intro (AVles.cons (one_of _) AVles.nil) ?_)
            refine aN ?_
            refine XCall.lenv (raw38 T2) rfl ?_
            refine And.intro rfl (And.intro (AVles.refl _) ?_)
            refine aN ?_
            refine XCall.lenv h5 rfl ?_
            refine And.intro rfl (And.intro (AVles.cons (seven_of _ _ _ _ _ _) AVles.nil) ?_)
            refine aN ?_
            refine SqW.nx ?_
            refine Rq.rt ?_
            exact And.intro rfl (AVle.refl _)
        · refine XCall.lenv h3 rfl ?_
          refine And.intro rfl (And.intro (AVles.cons (one_of _) AVles.nil) ?_)
          refine aN ?_
          refine XCall.lenv (raw38 T1) rfl ?_
          refine And.intro rfl (And.intro (AVles.refl _) ?_)
          refine aN ?_
          refine XCall.lenv h4 rfl ?_
          refine And.intro rfl (And.intro (AVles.cons (one_of _) AVles.nil) ?_)
          refine aN ?_
          refine XCall.lenv (raw38 T2) rfl ?_
          refine And.intro rfl (And.intro (AVles.refl _) ?_)
          refine aN ?_
          refine XCall.lenv h5 rfl ?_
          refine And.intro rfl (And.intro (AVles.cons (seven_of _ _ _ _ _ _) AVles.nil) ?_)
          refine aN ?_
          refine SqW.nx ?_
          refine Rq.rt ?_
          exact And.intro rfl (AVle.refl _)
      · refine XCall.lenv h3 rfl ?_
        refine And.intro rfl (And.intro (AVles.cons (one_of _) AVles.nil) ?_)
        refine aN ?_
        refine XCall.lenv (raw38 T1) rfl ?_
        refine And.intro rfl (And.intro (AVles.refl _) ?_)
        refine aN ?_
        refine XCall.lenv h4 rfl ?_
        refine And.intro rfl (And.intro (AVles.cons (one_of _) AVles.nil) ?_)
        refine aN ?_
        refine XCall.lenv (raw38 T2) rfl ?_
        refine And.intro rfl (And.intro (AVles.refl _) ?_)
        refine aN ?_
        refine XCall.lenv h5 rfl ?_
        refine And.intro rfl (And.intro (AVles.cons (seven_of _ _ _ _ _ _) AVles.nil) ?_)
        refine aN ?_
        refine SqW.nx ?_
        refine Rq.rt ?_
        exact And.intro rfl (AVle.refl _)
    · refine And.intro ?_ ?_
      · refine And.intro ?_ ?_
        · refine XCall.lenv h2 rfl ?_
          refine And.intro rfl (And.intro (AVles.cons (AVle.of_eq (congrArg (AV.i .i64) w0)) AVles.nil) ?_)
          refine aN ?_
          refine And.intro ?_ ?_
          · refine XCall.lenv h3 rfl ?_
            refine And.intro rfl (And.intro (AVles.cons (one_of _) AVles.nil) ?_)
            refine aN ?_
            refine And.intro ?_ ?_
            · refine XCall.lenv (raw38 T1) rfl ?_
              refine And.intro rfl (And.intro (AVles.refl _) ?_)
              refine aN ?_
              refine XCall.lenv h4 rfl ?_
              refine And.intro rfl (And.intro (AVles.cons (one_of _) AVles.nil) ?_)
              refine aN ?_
              refine XCall.lenv (raw38 T2) rfl ?_
              refine And.intro rfl (And.intro (AVles.refl _) ?_)
              refine aN ?_
              refine XCall.lenv h5 rfl ?_
              refine And.intro rfl (And.intro (AVles.cons (seven_of _ _ _ _ _ _) AVles.nil) ?_)
              refine aN ?_
              refine SqW.nx ?_
              refine Rq.rt ?_
              exact And.intro rfl (AVle.refl _)
            · refine XCall.lenv (raw38 T1) rfl ?_
              refine And.intro rfl (And.intro (AVles.refl _) ?_)
              refine aN ?_
              refine XCall.lenv h4 rfl ?_
              refine And.intro rfl (And.intro (AVles.cons (one_of _) AVles.nil) ?_)
              refine aN ?_
              refine XCall.lenv (raw38 T2) rfl ?_
              refine And.intro rfl (And.intro (AVles.refl _) ?_)
              refine aN ?_
              refine XCall.lenv h5 rfl ?_
              refine And.intro rfl (And.intro (AVles.cons (seven_of _ _ _ _ _ _) AVles.nil) ?_)
              refine aN ?_
              refine SqW.nx ?_
              refine Rq.rt ?_
              exact And.intro rfl (AVle.refl _)
          · refine XCall.lenv h3 rfl ?_
            refine And.intro rfl (And.intro (AVles.cons (one_of _) AVles.nil) ?_)
            refine aN ?_
            refine XCall.lenv (raw38 T1) rfl ?_
            refine And.intro rfl (And.intro (AVles.refl _) ?_)
            refine aN ?_
            refine XCall.lenv h4 rfl ?_
            refine And.intro rfl (And.intro (AVles.cons (one_of _) AVles.nil) ?_)
            refine aN ?_
            refine XCall.lenv (raw38 T2) rfl ?_
            refine And.intro rfl (And.intro (AVles.refl _) ?_)
            refine aN ?_
            refine XCall.lenv h5 rfl ?_
            refine And.intro rfl (And.intro (AVles.cons (seven_of _ _ _ _ _ _) AVles.nil) ?_)
            refine aN ?_
            refine SqW.nx ?_
            refine Rq.rt ?_
            exact And.intro rfl (AVle.refl _)
        · refine XCall.lenv h2 rfl ?_
          refine And.intro rfl (And.intro (AVles.cons (AVle.of_eq (congrArg (AV.i .i64) w0)) AVles.nil) ?_)
          refine aN ?_
          refine XCall.lenv h3 rfl ?_
          refine And.intro rfl (And.intro (AVles.cons (one_of _) AVles.nil) ?_)
          refine aN ?_
          refine XCall.lenv (raw38 T1) rfl ?_
          refine And.intro rfl (And.intro (AVles.refl _) ?_)
          refine aN ?_
          refine XCall.lenv h4 rfl ?_
          refine And.intro rfl (And.intro (AVles.cons (one_of _) AVles.nil) ?_)
          refine aN ?_
          refine XCall.lenv (raw38 T2) rfl ?_
          refine And.intro rfl (And.intro (AVles.refl _) ?_)
          refine aN ?_
          refine XCall.lenv h5 rfl ?_
          refine And.intro rfl (And.intro (AVles.cons (seven_of _ _ _ _ _ _) AVles.nil) ?_)
          refine aN ?_
          refine SqW.nx ?_
          refine Rq.rt ?_
          exact And.intro rfl (AVle.refl _)
      · refine And.intro ?_ ?_
        · refine XCall.lenv h2 rfl ?_
          refine And.intro rfl (And.intro (AVles.cons (AVle.of_eq (congrArg (AV.i .i64) w0)) AVles.nil) ?_)
          refine aN ?_
          refine XCall.lenv h3 rfl ?_
          refine And.intro rfl (And.intro (AVles.cons (one_of _) AVles.nil) ?_)
          refine aN ?_
          refine XCall.lenv (raw38 T1) rfl ?_
          refine And.intro rfl (And.intro (AVles.refl _) ?_)
          refine aN ?_
          refine XCall.lenv h4 rfl ?_
          refine And.intro rfl (And.intro (AVles.cons (one_of _) AVles.nil) ?_)
          refine aN ?_
          refine XCall.lenv (raw38 T2) rfl ?_
          refine And.intro rfl (And.intro (AVles.refl _) ?_)
          refine aN ?_
          refine XCall.lenv h5 rfl ?_
          refine And.intro rfl (And.intro (AVles.cons (seven_of _ _ _ _ _ _) AVles.nil) ?_)
          refine aN ?_
          refine SqW.nx ?_
          refine Rq.rt ?_
          exact And.intro rfl (AVle.refl _)
        · refine XCall.lenv h2 rfl ?_
          refine And.intro rfl (And.intro (AVles.cons (AVle.of_eq (congrArg (AV.i .i64) w0)) AVles.nil) ?_)
          refine aN ?_
          refine XCall.lenv h3 rfl ?_
          refine And.intro rfl (And.intro (AVles.cons (one_of _) AVles.nil) ?_)
          refine aN ?_
          refine XCall.lenv (raw38 T1) rfl ?_
          refine And.intro rfl (And.intro (AVles.refl _) ?_)
          refine aN ?_
          refine XCall.lenv h4 rfl ?_
          refine And.intro rfl (And.intro (AVles.cons (one_of _) AVles.nil) ?_)
          refine aN ?_
          refine XCall.lenv (raw38 T2) rfl ?_
          refine And.intro rfl (And.intro (AVles.refl _) ?_)
          refine aN ?_
          refine XCall.lenv h5 rfl ?_
          refine And.intro rfl (And.intro (AVles.cons (seven_of _ _ _ _ _ _) AVles.nil) ?_)
          refine aN ?_
          refine SqW.nx ?_
          refine Rq.rt ?_
          exact And.intro rfl (AVle.refl _)
  · refine And.intro ?_ ?_
    · refine And.intro ?_ ?_
      · refine XCall.lenv h1 rfl ?_
        refine And.intro rfl (And.intro (AVles.refl _) ?_)
        refine aN ?_
        refine And.intro ?_ ?_
        · refine XCall.lenv h2 rfl ?_
          refine And.intro rfl (And.intro (AVles.cons (AVle.of_eq (congrArg (AV.i .i64) w0)) AVles.nil) ?_)
          refine aN ?_
          refine And.intro ?_ ?_
          · refine XCall.lenv h3 rfl ?_
            refine And.intro rfl (And.intro (AVles.cons (one_of _) AVles.nil) ?_)
            refine aN ?_
            refine And.intro ?_ ?_
            · refine XCall.lenv (raw38 T1) rfl ?_
              refine And.intro rfl (And.intro (AVles.refl _) ?_)
              refine aN ?_
              refine XCall.lenv h4 rfl ?_
              refine And.intro rfl (And.intro (AVles.cons (one_of _) AVles.nil) ?_)
              refine aN ?_
              refine XCall.lenv (raw38 T2) rfl ?_
              refine And.intro rfl (And.intro (AVles.refl _) ?_)
              refine aN ?_
              refine XCall.lenv h5 rfl ?_
              refine And.intro rfl (And.intro (AVles.cons (seven_of _ _ _ _ _ _) AVles.nil) ?_)
              refine aN ?_
              refine SqW.nx ?_
              refine Rq.rt ?_
              exact And.intro rfl (AVle.refl _)
            · refine XCall.lenv (raw38 T1) rfl ?_
              refine And.intro rfl (And.intro (AVles.refl _) ?_)
              refine aN ?_
              refine XCall.lenv h4 rfl ?_
              refine And.intro rfl (And.intro (AVles.cons (one_of _) AVles.nil) ?_)
              refine aN ?_
              refine XCall.lenv (raw38 T2) rfl ?_
              refine And.intro rfl (And.intro (AVles.refl _) ?_)
              refine aN ?_
              refine XCall.lenv h5 rfl ?_
              refine And.intro rfl (And.intro (AVles.cons (seven_of _ _ _ _ _ _) AVles.nil) ?_)
              refine aN ?_
              refine SqW.nx ?_
              refine Rq.rt ?_
              exact And.intro rfl (AVle.refl _)
          · refine XCall.lenv h3 rfl ?_
            refine And.intro rfl (And.intro (AVles.cons (one_of _) AVles.nil) ?_)
            refine aN ?_
            refine XCall.lenv (raw38 T1) rfl ?_
            refine And.intro rfl (And.intro (AVles.refl _) ?_)
            refine aN ?_
            refine XCall.lenv h4 rfl ?_
            refine And.intro rfl (And.intro (AVles.cons (one_of _) AVles.nil) ?_)
            refine aN ?_
            refine XCall.lenv (raw38 T2) rfl ?_
            refine And.intro rfl (And.intro (AVles.refl _) ?_)
            refine aN ?_
            refine XCall.lenv h5 rfl ?_
            refine And.intro rfl (And.intro (AVles.cons (seven_of _ _ _ _ _ _) AVles.nil) ?_)
            refine aN ?_
            refine SqW.nx ?_
            refine Rq.rt ?_
            exact And.intro rfl (AVle.refl _)
        · refine XCall.lenv h2 rfl ?_
          refine And.intro rfl (And.intro (AVles.cons (AVle.of_eq (congrArg (AV.i .i64) w0)) AVles.nil) ?_)
          refine aN ?_
          refine XCall.lenv h3 rfl ?_
          refine And.intro rfl (And.intro (AVles.cons (one_of _) AVles.nil) ?_)
          refine aN ?_
          refine XCall.lenv (raw38 T1) rfl ?_
          refine And.intro rfl (And.intro (AVles.refl _) ?_)
          refine aN ?_
          refine XCall.lenv h4 rfl ?_
          refine And.intro rfl (And.intro (AVles.cons (one_of _) AVles.nil) ?_)
          refine aN ?_
          refine XCall.lenv (raw38 T2) rfl ?_
          refine And.intro rfl (And.intro (AVles.refl _) ?_)
          refine aN ?_
          refine XCall.lenv h5 rfl ?_
          refine And.intro rfl (And.intro (AVles.cons (seven_of _ _ _ _ _ _) AVles.nil) ?_)
          refine aN ?_
          refine SqW.nx ?_
          refine Rq.rt ?_
          exact And.intro rfl (AVle.refl _)
      · refine XCall.lenv h1 rfl ?_
        refine And.intro rfl (And.intro (AVles.refl _) ?_)
        refine aN ?_
        refine XCall.lenv h2 rfl ?_
        refine And.intro rfl (And.intro (AVles.cons (AVle.of_eq (congrArg (AV.i .i64) w0)) AVles.nil) ?_)
        refine aN ?_
        refine XCall.lenv h3 rfl ?_
        refine And.intro rfl (And.intro (AVles.cons (one_of _) AVles.nil) ?_)
        refine aN ?_
        refine XCall.lenv (raw38 T1) rfl ?_
        refine And.intro rfl (And.intro (AVles.refl _) ?_)
        refine aN ?_
        refine XCall.lenv h4 rfl ?_
        refine And.intro rfl (And.intro (AVles.cons (one_of _) AVles.nil) ?_)
        refine aN ?_
        refine XCall.lenv (raw38 T2) rfl ?_
        refine And.intro rfl (And.intro (AVles.refl _) ?_)
        refine aN ?_
        refine XCall.lenv h5 rfl ?_
        refine And.intro rfl (And.intro (AVles.cons (seven_of _ _ _ _ _ _) AVles.nil) ?_)
        refine aN ?_
        refine SqW.nx ?_
        refine Rq.rt ?_
        exact And.intro rfl (AVle.refl _)
    · refine And.intro ?_ ?_
      · refine XCall.lenv h1 rfl ?_
        refine And.intro rfl (And.intro (AVles.refl _) ?_)
        refine aN ?_
        refine And.intro ?_ ?_
        · refine XCall.lenv h2 rfl ?_
          refine And.intro rfl (And.intro (AVles.cons (AVle.of_eq (congrArg (AV.i .i64) w0)) AVles.nil) ?_)
          refine aN ?_
          refine XCall.lenv h3 rfl ?_
          refine And.intro rfl (And.intro (AVles.cons (one_of _) AVles.nil) ?_)
          refine aN ?_
          refine XCall.lenv (raw38 T1) rfl ?_
          refine And.intro rfl (And.intro (AVles.refl _) ?_)
          refine aN ?_
          refine XCall.lenv h4 rfl ?_
          refine And.intro rfl (And.intro (AVles.cons (one_of _) AVles.nil) ?_)
          refine aN ?_
          refine XCall.lenv (raw38 T2) rfl ?_
          refine And.intro rfl (And.intro (AVles.refl _) ?_)
          refine aN ?_
          refine XCall.lenv h5 rfl ?_
          refine And.intro rfl (And.intro (AVles.cons (seven_of _ _ _ _ _ _) AVles.nil) ?_)
          refine aN ?_
          refine SqW.nx ?_
          refine Rq.rt ?_
          exact And.intro rfl (AVle.refl _)
        · refine XCall.lenv h2 rfl ?_
          refine And.intro rfl (And.intro (AVles.cons (AVle.of_eq (congrArg (AV.i .i64) w0)) AVles.nil) ?_)
          refine aN ?_
          refine XCall.lenv h3 rfl ?_
          refine And.intro rfl (And.intro (AVles.cons (one_of _) AVles.nil) ?_)
          refine aN ?_
          refine XCall.lenv (raw38 T1) rfl ?_
          refine And.intro rfl (And.intro (AVles.refl _) ?_)
          refine aN ?_
          refine XCall.lenv h4 rfl ?_
          refine And.intro rfl (And.intro (AVles.cons (one_of _) AVles.nil) ?_)
          refine aN ?_
          refine XCall.lenv (raw38 T2) rfl ?_
          refine And.intro rfl (And.intro (AVles.refl _) ?_)
          refine aN ?_
          refine XCall.lenv h5 rfl ?_
          refine And.intro rfl (And.intro (AVles.cons (seven_of _ _ _ _ _ _) AVles.nil) ?_)
          refine aN ?_
          refine SqW.nx ?_
          refine Rq.rt ?_
          exact And.intro rfl (AVle.refl _)
      · refine XCall.lenv h1 rfl ?_
        refine And.intro rfl (And.intro (AVles.refl _) ?_)
        refine aN ?_
        refine XCall.lenv h2 rfl ?_
        refine And.intro rfl (And.intro (AVles.cons (AVle.of_eq (congrArg (AV.i .i64) w0)) AVles.nil) ?_)
        refine aN ?_
        refine XCall.lenv h3 rfl ?_
        refine And.intro rfl (And.intro (AVles.cons (one_of _) AVles.nil) ?_)
        refine aN ?_
        refine XCall.lenv (raw38 T1) rfl ?_
        refine And.intro rfl (And.intro (AVles.refl _) ?_)
        refine aN ?_
        refine XCall.lenv h4 rfl ?_
        refine And.intro rfl (And.intro (AVles.cons (one_of _) AVles.nil) ?_)
        refine aN ?_
        refine XCall.lenv (raw38 T2) rfl ?_
        refine And.intro rfl (And.intro (AVles.refl _) ?_)
        refine aN ?_
        refine XCall.lenv h5 rfl ?_
        refine And.intro rfl (And.intro (AVles.cons (seven_of _ _ _ _ _ _) AVles.nil) ?_)
        refine aN ?_
        refine SqW.nx ?_
        refine Rq.rt ?_
        exact And.intro rfl (AVle.refl _)
end Go.Proofs.T

namespace Go.Proofs.T
open Go Go.Hb

def partL (name data : ByteArray) (i : Nat) : List ByteArray := seven name (decB (data.size : Int)) (decB ((i + 1 : Nat) : Int)) (rawB (sumF data)) (rawB (sumF (cutF data (i + 1)))) (cutF data (i + 1))
def partB (name data : ByteArray) (i : Nat) : ByteArray := rowG (partL name data i)
theorem rawB_size (T : Nat → Int) : (rawB T).size = 32 := by simp [rawB, bytesOf, ByteArray.size]
theorem decB_size (n : Nat) (hn : n ≤ 1099511627776) : (decB (n : Int)).size ≤ 21 := by
  have := Lib.itoa_length_le (n : Int) (by omega) (by omega)
  simpa [decB, ByteArray.size] using this
theorem cutF_size (data : ByteArray) (x : Nat) : (cutF data x).size = rowsN data.size := ofN_size _ _
theorem partL_le (name data : ByteArray) (i : Nat) (hn : name.size ≤ 100) (hd : data.size ≤ 65536) (hi : i < 5) : ∀ s ∈ partL name data i, s.size ≤ 65536 := by
  intro s hs
  have h1 := decB_size data.size (by omega)
  have h2 := decB_size (i + 1) (by omega)
  unfold partL seven at hs
  simp only [List.mem_cons, List.not_mem_nil, or_false] at hs
  rcases hs with rfl | rfl | rfl | rfl | rfl | rfl | rfl
  · show 4 ≤ _; decide
  · omega
  · omega
  · omega
  · rw [rawB_size]; decide
  · rw [rawB_size]; decide
  · rw [cutF_size]; unfold rowsN; omega
theorem rowG_le : ∀ (l : List ByteArray) (m : Nat), (∀ s ∈ l, s.size ≤ m) → m < 268435456 → (rowG l).size ≤ l.length * (m + 4)
  | [], _, _, _ => Nat.zero_le _
  | s :: l, m, h, hm => by
    have h1 := h s (by simp)
    have h2 := rowG_le l m (fun q hq => h q (by simp [hq])) hm
    have h3 := lenG_len (n := s.size) (by omega)
    show (lenB s.size ++ s ++ rowG l).size ≤ _
    rw [ByteArray.size_append, ByteArray.size_append, lenB_size, List.length_cons, Nat.add_mul]
    omega
theorem partB_size (name data : ByteArray) (i : Nat) (hn : name.size ≤ 100) (hd : data.size ≤ 65536) (hi : i < 5) : (partB name data i).size ≤ 458780 := by
  have := rowG_le (partL name data i) 65536 (partL_le name data i hn hd hi) (by decide)
  have e : (partL name data i).length = 7 := rfl
  rw [e] at this
  unfold partB
  omega
theorem write35 (name data : ByteArray) (i : Nat) (hn : name.size ≤ 100) (hd : data.size ≤ 65536) (hi : i < 5) :
    Pure Tryz.prog 35 [.i .i64 (i : Int), feA (.fs 5 2 (cP data)), feA (.s name), feA (.s data)] (fun r => r = .s (partB name data i)) := by
  have hL := partL_le name data i hn hd hi
  have hc : (cutF data (i + 1)).size ≤ 65536 := by rw [cutF_size]; unfold rowsN; omega
  have b1 : data.size ≤ 1099511627776 := by omega
  have b2 : (cutF data (i + 1)).size ≤ 1099511627776 := by omega
  have b3 : (partB name data i).size ≤ 140737488355328 := Nat.le_trans (partB_size name data i hn hd hi) (by omega)
  have h5 := row36p (partL name data i) (by simp [partL, seven]) (by simp [partL, seven]) (fun x hx => Nat.le_trans (hL x hx) (by omega)) b3
  have h1 := dec37 (data.size : Int) (by omega) (by omega)
  have h2 := dec37 ((i + 1 : Nat) : Int) (by omega) (by omega)
  have h3 := sum39 data b1
  have h4 := sum39 (cutF data (i + 1)) b2
  have hp : cP data i 1 = .s (cutF data (i + 1)) := rfl
  exact row_core name data (cutF data (i + 1)) (decB (data.size : Int)) (decB ((i + 1 : Nat) : Int)) (partB name data i) (sumF data) (sumF (cutF data (i + 1))) i (cP data) hi hp h1 h2 h3 h4 h5

def lookF (name : ByteArray) (n : Nat) : Nat := if name.size = 0 ∨ 100 < name.size then 7 else if 65536 < n then 6 else 0
theorem look32 (name : ByteArray) (n : Nat) : Pure Tryz.prog 32 [.s name, .i .i64 (n : Int)] (fun r => r = .i .i64 ((lookF name n : Nat) : Int)) := by
  refine Pure.weak (Post := fun v => AVle v (.i .i64 ((lookF name n : Nat) : Int))) (Pure.of (XCall.bodyw is32 rfl ?_)) fun r h => ⟨_, rfl, h⟩
  unfold m32
  refine aW ?_
  refine brk.mk (fun hc => ?_) (fun hc => ?_)
  · rw [beq_iff] at hc
    have h0 : name.size = 0 := by rw [of_decide_eq_true hc]; rfl
    refine aW ?_
    change awpW Tryz.prog (MC.seq _ _) _ _
    refine aW ?_
    refine Rq.rt ?_
    refine And.intro rfl (AVle.of_eq ?_)
    unfold lookF
    rw [if_pos (.inl h0)]
    rfl
  · have h0 : ¬ name.size = 0 := fun e => by
      rw [beq_iff, decide_eq_true (ba_nil e)] at hc
      cases hc
    refine aW ?_
    refine brk.mk (fun hq => ?_) (fun hq => ?_)
    · have h1 : 100 < name.size := by have := of_decide_eq_true hq; omega
      refine aW ?_
      refine Rq.rt ?_
      refine And.intro rfl (AVle.of_eq ?_)
      unfold lookF
      rw [if_pos (.inr h1)]
      rfl
    · have h1 : ¬ 100 < name.size := by have := of_decide_eq_false hq; omega
      refine aW ?_
      refine brk.mk (fun hr => ?_) (fun hr => ?_)
      · have h2 : 65536 < n := by have := of_decide_eq_true hr; omega
        refine aW ?_
        refine Rq.rt ?_
        refine And.intro rfl (AVle.of_eq ?_)
        unfold lookF
        rw [if_neg (by omega), if_pos h2]
        rfl
      · have h2 : ¬ 65536 < n := by have := of_decide_eq_false hr; omega
        refine aW ?_
        refine Rq.rt ?_
        refine And.intro rfl (AVle.of_eq ?_)
        unfold lookF
        rw [if_neg (by omega), if_neg h2]
        rfl

/-! What the shelves told -/
structure Td where
  d : ByteArray
  e : Int
def tC (t : Td) : List AV := [.s t.d, .nils, .i .i64 t.e]
def t5 (T : Nat → Td) : List AV := [.s (T 0).d, .nils, .i .i64 (T 0).e, .s (T 1).d, .nils, .i .i64 (T 1).e, .s (T 2).d, .nils, .i .i64 (T 2).e, .s (T 3).d, .nils, .i .i64 (T 3).e, .s (T 4).d, .nils, .i .i64 (T 4).e]
theorem t5_at (T : Nat → Td) : ∀ i, i < 5 → takeAt (t5 T) (i * 3) 3 = some (tC (T i)) := by
  intro i hi
  obtain rfl | rfl | rfl | rfl | rfl : i = 0 ∨ i = 1 ∨ i = 2 ∨ i = 3 ∨ i = 4 := by omega
  all_goals rfl

/-- The first error that is none of some. -/
def firstF (T : Nat → Td) (but : Int) : Nat → Int
  | 0 => 0
  | k + 1 => if (T (4 - k)).e ≠ 0 ∧ (T (4 - k)).e ≠ but then (T (4 - k)).e else firstF T but k
theorem first_core (T : Nat → Td) (but R : Int) (F : Nat → Int) (h0 : F 0 = 0) (h1 : ∀ k, F (k + 1) = if (T (4 - k)).e ≠ 0 ∧ (T (4 - k)).e ≠ but then (T (4 - k)).e else F k) (hR : F 5 = R) :
    Pure Tryz.prog 52 [.agg (t5 T), .i .i64 but] (fun r => r = .i .i64 R) := by
  refine Pure.weak (Post := fun v => AVle v (.i .i64 R)) (Pure.of (XCall.bodyw is52 rfl ?_)) fun r h => ⟨_, rfl, h⟩
  unfold m52
  refine aW ?_
  refine lpW.mk (fun σ => ∃ k : Nat, k ≤ 5 ∧ F (5 - k) = R ∧ σ = ⟨[(1, .i .i64 but), (4, .i .i64 0), (7, .agg (t5 T)), (8, .i .i64 (k : Int))], [], 1⟩) (fun σ => (5 - num 8 σ).toNat) ?_ ?_
  · refine ⟨_, Le.mk ?_ ?_ rfl rfl, 0, by decide, hR, rfl⟩
    · exact ⟨rfl, rfl, rfl, rfl, trivial⟩
    · exact trivial
  rintro σ' ⟨k, hk, hF, rfl⟩
  refine aW ?_
  refine brk.mk (fun hc => ?_) (fun hc => ?_)
  · have hk5 : k < 5 := by have := of_decide_eq_true hc; omega
    have w0 : IntKind.i64.wrap ((k : Int) + 1) = ((k + 1 : Nat) : Int) := by rw [wrap_int (by omega) (by omega)]; omega
    have hs := h1 (5 - (k + 1))
    rw [show 5 - (k + 1) + 1 = 5 - k by omega, show 4 - (5 - (k + 1)) = k by omega, hF] at hs
    refine aW ?_
    refine Exists.intro k (And.intro rfl (And.intro hk5 (Exists.intro (tC (T k)) (And.intro (t5_at T k hk5) ?_))))
    refine aW ?_
    have go : ∀ (hne : ¬ ((T k).e ≠ 0 ∧ (T k).e ≠ but)), F (5 - (k + 1)) = R := fun hne => by rw [if_neg hne] at hs; exact hs.symm
    refine brk.mk (fun he => ?_) (fun he => ?_)
    · have he' : (T k).e ≠ 0 := by simpa using he
      refine aW ?_
      refine brk.mk (fun hb => ?_) (fun hb => ?_)
      · have hb' : (T k).e ≠ but := by simpa using hb
        refine aW ?_
        refine Rq.rt ?_
        refine And.intro rfl (AVle.of_eq ?_)
        rw [hs, if_pos ⟨he', hb'⟩]
        rfl
      · have hb' : (T k).e = but := by simpa using hb
        refine aW ?_
        refine Lq.nx _ (Le.mk ?_ ?_ rfl rfl) ⟨k + 1, hk5, go (fun h => h.2 hb'), rfl⟩ ?_
        · exact ⟨rfl, rfl, rfl, congrArg (AV.i .i64) w0, trivial⟩
        · exact trivial
        · show (5 - ((k + 1 : Nat) : Int)).toNat < (5 - (k : Int)).toNat
          omega
    · have he' : (T k).e = 0 := by simpa using he
      refine aW ?_
      refine Lq.nx _ (Le.mk ?_ ?_ rfl rfl) ⟨k + 1, hk5, go (fun h => h.1 he'), rfl⟩ ?_
      · exact ⟨rfl, rfl, rfl, congrArg (AV.i .i64) w0, trivial⟩
      · exact trivial
      · show (5 - ((k + 1 : Nat) : Int)).toNat < (5 - (k : Int)).toNat
        omega
  have hk5 : k = 5 := by have := of_decide_eq_false hc; omega
  subst hk5
  refine aW ?_
  refine Rq.rt ?_
  refine And.intro rfl (AVle.of_eq ?_)
  rw [← hF, Nat.sub_self, h0]
  rfl
theorem first52 (T : Nat → Td) (but : Int) : Pure Tryz.prog 52 [.agg (t5 T), .i .i64 but] (fun r => r = .i .i64 (firstF T but 5)) := first_core T but _ (firstF T but) rfl (fun _ => rfl) rfl

/-- Why nothing is told. -/
def noneF (T : Nat → Td) : Nat → Nat
  | 0 => 0
  | k + 1 => noneF T k + (if (T k).e = 9 then 1 else 0)
def lostF (T : Nat → Td) (g : Bool) : Int := if g = true then 17 else if 3 ≤ noneF T 5 then 9 else 18
theorem noneF_le (T : Nat → Td) : ∀ k, noneF T k ≤ k
  | 0 => Nat.le_refl _
  | k + 1 => by
    have := noneF_le T k
    unfold noneF
    split <;> omega
theorem lost_core (T : Nat → Td) (g : Bool) (N : Nat → Nat) (h0 : N 0 = 0) (h1 : ∀ k, N (k + 1) = N k + (if (T k).e = 9 then 1 else 0)) (hN : ∀ k, N k ≤ k) :
    Pure Tryz.prog 43 [.agg (t5 T), .b g] (fun r => r = .i .i64 (if g = true then 17 else if 3 ≤ N 5 then 9 else 18)) := by
  refine Pure.weak (Post := fun v => AVle v (.i .i64 (if g = true then 17 else if 3 ≤ N 5 then 9 else 18))) (Pure.of (XCall.bodyw is43 rfl ?_)) fun r h => ⟨_, rfl, h⟩
  unfold m43
  refine aW ?_
  refine brk.mk (fun hg => ?_) (fun hg => ?_)
  · refine aW ?_
    refine Rq.rt ?_
    refine And.intro rfl (AVle.of_eq ?_)
    rw [if_pos hg]
    rfl
  rw [if_neg (by rw [hg]; decide)]
  refine aW ?_
  refine lpW.mk (fun σ => ∃ k : Nat, k ≤ 5 ∧ σ = ⟨[(5, .i .i64 ((N k : Nat) : Int)), (9, .agg (t5 T)), (10, .i .i64 (k : Int))], [], 1⟩) (fun σ => (5 - num 10 σ).toNat) ?_ ?_
  · refine ⟨_, Le.mk ?_ ?_ rfl rfl, 0, by decide, rfl⟩
    · exact ⟨by rw [h0]; rfl, rfl, rfl, trivial⟩
    · exact trivial
  rintro σ' ⟨k, hk, rfl⟩
  refine aW ?_
  refine brk.mk (fun hc => ?_) (fun hc => ?_)
  · have hk5 : k < 5 := by have := of_decide_eq_true hc; omega
    have hNk := hN k
    have w0 : IntKind.i64.wrap ((k : Int) + 1) = ((k + 1 : Nat) : Int) := by rw [wrap_int (by omega) (by omega)]; omega
    refine aW ?_
    refine Exists.intro k (And.intro rfl (And.intro hk5 (Exists.intro (tC (T k)) (And.intro (t5_at T k hk5) ?_))))
    refine aW ?_
    refine brk.mk (fun he => ?_) (fun he => ?_)
    · have he' : (T k).e = 9 := eq_of_beq he
      have wn : IntKind.i64.wrap (((N k : Nat) : Int) + 1) = ((N (k + 1) : Nat) : Int) := by rw [h1, if_pos he', wrap_int (by omega) (by omega)]; omega
      refine aW ?_
      refine Lq.nx _ (Le.mk ?_ ?_ rfl rfl) ⟨k + 1, hk5, rfl⟩ ?_
      · exact ⟨congrArg (AV.i .i64) wn, rfl, congrArg (AV.i .i64) w0, trivial⟩
      · exact trivial
      · show (5 - ((k + 1 : Nat) : Int)).toNat < (5 - (k : Int)).toNat
        omega
    · have he' : ¬ (T k).e = 9 := fun e => by rw [e] at he; simp at he
      have wn : N k = N (k + 1) := by rw [h1, if_neg he']; rfl
      refine aW ?_
      refine Lq.nx _ (Le.mk ?_ ?_ rfl rfl) ⟨k + 1, hk5, rfl⟩ ?_
      · exact ⟨congrArg (fun n : Nat => AV.i .i64 (n : Int)) wn, rfl, congrArg (AV.i .i64) w0, trivial⟩
      · exact trivial
      · show (5 - ((k + 1 : Nat) : Int)).toNat < (5 - (k : Int)).toNat
        omega
  have hk5 : k = 5 := by have := of_decide_eq_false hc; omega
  subst hk5
  refine aW ?_
  refine brk.mk (fun hn => ?_) (fun hn => ?_)
  · have hn' : 3 ≤ N 5 := by have := of_decide_eq_true hn; omega
    refine aW ?_
    refine Rq.rt ?_
    refine And.intro rfl (AVle.of_eq ?_)
    rw [if_pos hn']
    rfl
  · have hn' : ¬ 3 ≤ N 5 := by have := of_decide_eq_false hn; omega
    refine aW ?_
    refine Rq.rt ?_
    refine And.intro rfl (AVle.of_eq ?_)
    rw [if_neg hn']
    rfl
theorem lost43 (T : Nat → Td) (g : Bool) : Pure Tryz.prog 43 [.agg (t5 T), .b g] (fun r => r = .i .i64 (lostF T g)) := lost_core T g (noneF T) rfl (fun _ => rfl) (noneF_le T)
end Go.Proofs.T

namespace Go.Proofs.T
open Go Go.Hb

/-! Five calls -/
def st11 (S : Nat → Sh) (L : Int) : List AV := [oAV (S 0).objs, fAV (S 0).fates, oAV (S 1).objs, fAV (S 1).fates, oAV (S 2).objs, fAV (S 2).fates, oAV (S 3).objs, fAV (S 3).fates, oAV (S 4).objs, fAV (S 4).fates, .i .i64 L]
def stA (S : Nat → Sh) (L : Int) : AV := .agg (st11 S L)
def z11 : List AV := [.nils, .nils, .nils, .nils, .nils, .nils, .nils, .nils, .nils, .nils, .i .i64 0]
def z15 : List AV := [.s ⟨#[]⟩, .nils, .i .i64 0, .s ⟨#[]⟩, .nils, .i .i64 0, .s ⟨#[]⟩, .nils, .i .i64 0, .s ⟨#[]⟩, .nils, .i .i64 0, .s ⟨#[]⟩, .nils, .i .i64 0]
def live (L : Int) (i : Nat) : Bool := decide (L < 0 ∨ (i : Int) < L)
def lf (L : Int) (i : Nat) : Int := if L < 0 then L else if (i : Int) ≤ L then L - i else 0
def shK (c : Nat → Sh × Td) (S : Nat → Sh) (L : Int) (k : Nat) : Nat → Sh := fun j => if j < k ∧ live L j = true then (c j).1 else S j
def tdK (c : Nat → Sh × Td) (L : Int) (k : Nat) : Nat → Td := fun j => if j < k then (if live L j = true then (c j).2 else ⟨⟨#[]⟩, 17⟩) else ⟨⟨#[]⟩, 0⟩
def gn (L : Int) (k : Nat) : Bool := !decide (k = 0) && !live L (k - 1)
theorem gn_0 (L : Int) : gn L 0 = false := rfl
theorem lf0 (L : Int) : lf L 0 = L := by unfold lf; split <;> (try split) <;> omega
theorem shK0 (c : Nat → Sh × Td) (S : Nat → Sh) (L : Int) : shK c S L 0 = S := by funext j; unfold shK; rw [if_neg (by omega)]
theorem tdK0 (c : Nat → Sh × Td) (L : Int) : tdK c L 0 = fun _ => ⟨⟨#[]⟩, 0⟩ := by funext j; unfold tdK; rw [if_neg (by omega)]
theorem live_of {L : Int} {i : Nat} (h : (lf L i == 0) = false) : live L i = true := by
  have h' : ¬ lf L i = 0 := by simpa using h
  unfold lf at h'
  unfold live
  refine decide_eq_true ?_
  split at h'
  · left; assumption
  · split at h' <;> omega
theorem dead_of {L : Int} {i : Nat} (h : (lf L i == 0) = true) : live L i = false := by
  have h' := eq_of_beq h
  unfold lf at h'
  unfold live
  refine decide_eq_false ?_
  split at h'
  · omega
  · split at h' <;> omega
theorem lf_dead {L : Int} {i : Nat} (h : live L i = false) : lf L (i + 1) = lf L i := by
  have := of_decide_eq_false h
  unfold lf
  rw [if_neg (by omega), if_neg (by omega), if_neg (by omega)]
  split <;> omega
theorem lf_dec {L : Int} {i : Nat} (h : live L i = true) (hp : 0 < lf L i) : lf L (i + 1) = lf L i - 1 := by
  have := of_decide_eq_true h
  unfold lf at hp ⊢
  split at hp
  · omega
  · rename_i h0
    rw [if_neg h0, if_neg h0]
    split at hp
    · rw [if_pos (by omega), if_pos (by omega)]; omega
    · omega
theorem lf_neg {L : Int} {i : Nat} (h : live L i = true) (hp : ¬ 0 < lf L i) : lf L (i + 1) = lf L i := by
  have := of_decide_eq_true h
  unfold lf at hp ⊢
  split at hp
  · rename_i h0; rw [if_pos h0, if_pos h0]
  · split at hp
    · omega
    · omega
theorem lf_le {L : Int} {i : Nat} (h1 : -9223372036854775808 ≤ L) (h2 : L < 9223372036854775808) : -9223372036854775808 ≤ lf L i ∧ lf L i < 9223372036854775808 := by
  unfold lf
  split
  · omega
  · split <;> omega
theorem gn_live {L : Int} {i : Nat} (h : live L i = true) : gn L i = false ∧ gn L (i + 1) = false := by
  have h' := of_decide_eq_true h
  have e1 : gn L (i + 1) = false := by unfold gn; rw [Nat.add_sub_cancel, h]; simp
  have e0 : gn L i = false := by
    unfold gn
    by_cases hi : i = 0
    · rw [decide_eq_true hi]; rfl
    · have : live L (i - 1) = true := decide_eq_true (by omega)
      rw [this]
      simp
  exact ⟨e0, e1⟩
theorem gn_dead {L : Int} {i : Nat} (h : live L i = false) : gn L (i + 1) = true := by
  unfold gn
  rw [Nat.add_sub_cancel, h, decide_eq_false (Nat.succ_ne_zero i)]
  rfl
def atF {α : Type} (f : Nat → α) (i : Nat) (a : α) : Nat → α := fun j => if j = i then a else f j
theorem shK_live {c : Nat → Sh × Td} {S : Nat → Sh} {L : Int} {i : Nat} (h : live L i = true) : shK c S L (i + 1) = atF (shK c S L i) i (c i).1 := by
  funext j
  unfold shK atF
  dsimp only
  by_cases hj : j = i
  · subst hj
    rw [if_pos ⟨Nat.lt_succ_self j, h⟩, if_pos rfl]
  · rw [if_neg hj]
    by_cases hl : j < i
    · by_cases hv : live L j = true
      · rw [if_pos ⟨by omega, hv⟩, if_pos ⟨hl, hv⟩]
      · rw [if_neg (fun q => hv q.2), if_neg (fun q => hv q.2)]
    · rw [if_neg (by omega), if_neg (by omega)]
theorem shK_dead {c : Nat → Sh × Td} {S : Nat → Sh} {L : Int} {i : Nat} (h : live L i = false) : shK c S L (i + 1) = shK c S L i := by
  funext j
  unfold shK
  by_cases hj : j = i
  · subst hj
    rw [if_neg (fun q => by rw [h] at q; cases q.2), if_neg (by omega)]
  · by_cases hl : j < i
    · by_cases hv : live L j = true
      · rw [if_pos ⟨by omega, hv⟩, if_pos ⟨hl, hv⟩]
      · rw [if_neg (fun q => hv q.2), if_neg (fun q => hv q.2)]
    · rw [if_neg (by omega), if_neg (by omega)]
theorem shK_at {c : Nat → Sh × Td} {S : Nat → Sh} {L : Int} {i : Nat} : shK c S L i i = S i := by
  unfold shK
  rw [if_neg (by omega)]
theorem tdK_step {c : Nat → Sh × Td} {L : Int} {i : Nat} (t : Td) (h : (if live L i = true then (c i).2 else ⟨⟨#[]⟩, 17⟩) = t) : tdK c L (i + 1) = atF (tdK c L i) i t := by
  funext j
  unfold tdK atF
  dsimp only
  by_cases hj : j = i
  · subst hj
    rw [if_pos (Nat.lt_succ_self j), if_pos rfl, h]
  · rw [if_neg hj]
    by_cases hl : j < i
    · rw [if_pos (by omega), if_pos hl]
    · rw [if_neg (by omega), if_neg hl]
theorem tdK_at {c : Nat → Sh × Td} {L : Int} {i : Nat} : tdK c L i i = ⟨⟨#[]⟩, 0⟩ := by
  unfold tdK
  rw [if_neg (by omega)]
end Go.Proofs.T

namespace Go.Proofs.T
open Go Go.Hb

theorem st_set (S : Nat → Sh) (L : Int) : ∀ i, i < 5 → ∀ s : Sh, setAt (st11 S L) (0 + i * 2) [oAV s.objs, fAV s.fates] = st11 (atF S i s) L := by
  intro i hi s
  obtain rfl | rfl | rfl | rfl | rfl : i = 0 ∨ i = 1 ∨ i = 2 ∨ i = 3 ∨ i = 4 := by omega
  all_goals rfl
theorem td_set (T : Nat → Td) : ∀ i, i < 5 → ∀ t : Td, setAt (t5 T) (0 + i * 3) [.s t.d, .nils, .i .i64 t.e] = t5 (atF T i t) := by
  intro i hi t
  obtain rfl | rfl | rfl | rfl | rfl : i = 0 ∨ i = 1 ∨ i = 2 ∨ i = 3 ∨ i = 4 := by omega
  all_goals rfl
theorem td_e (c : Nat → Sh × Td) (L : Int) : ∀ i, i < 5 → ∀ e : Int, setAt (t5 (tdK c L i)) (0 + i * 3 + 2) [.i .i64 e] = t5 (atF (tdK c L i) i ⟨⟨#[]⟩, e⟩) := by
  intro i hi t
  obtain rfl | rfl | rfl | rfl | rfl : i = 0 ∨ i = 1 ∨ i = 2 ∨ i = 3 ∨ i = 4 := by omega
  all_goals rfl
theorem st_setD (S : Nat → Sh) (L L' : Int) : ∀ i, i < 5 → ∀ s : Sh, ∀ {w l : Int}, w = L' → L' = l → setAt (setAt (st11 S L) 10 [.i .i64 w]) (0 + i * 2) [oAV s.objs, fAV s.fates] = st11 (atF S i s) l := by
  rintro i hi s w l rfl rfl
  obtain rfl | rfl | rfl | rfl | rfl : i = 0 ∨ i = 1 ∨ i = 2 ∨ i = 3 ∨ i = 4 := by omega
  all_goals rfl
theorem st_setDN (S : Nat → Sh) (L l : Int) : ∀ i, i < 5 → ∀ s : Sh, L = l → setAt (st11 S L) (0 + i * 2) [oAV s.objs, fAV s.fates] = st11 (atF S i s) l := by
  rintro i hi s rfl
  exact st_set S L i hi s
def putC (S : Nat → Sh) (name : ByteArray) (b : Nat → ByteArray) : Nat → Sh × Td := fun j => ((put (S j) name (b j)).1, ⟨⟨#[]⟩, (put (S j) name (b j)).2⟩)
def postF (S : Nat → Sh) (L : Int) (name data : ByteArray) : (Nat → Sh) × Int × Int :=
  if lookF name data.size ≠ 0 then (S, L, (lookF name data.size : Nat)) else (shK (putC S name fun _ => data) S L 5, lf L 5, firstF (tdK (putC S name fun _ => data) L 5) 0 5)
def st2 (q : (Nat → Sh) × Int × Int) : AV := .tup [stA q.1 q.2.1, .i .i64 q.2.2]
set_option maxHeartbeats 4000000 in
theorem post17 (S : Nat → Sh) (L : Int) (name data : ByteArray) (hS : ∀ i, i < 5 → Small (S i)) (hL1 : -9223372036854775808 ≤ L) (hL2 : L < 9223372036854775808) :
    Pure Tryz.prog 17 [stA S L, .s name, .s data] (fun r => r = st2 (postF S L name data)) := by
  refine Pure.weak (Post := fun v => AVle v (st2 (postF S L name data))) (Pure.of (XCall.bodyw is17 rfl ?_)) fun r h => ⟨_, rfl, h⟩
  unfold m17
  refine aW ?_
  refine XCall.lenv (look32 name data.size) rfl ?_
  refine And.intro rfl (And.intro (AVles.refl _) ?_)
  refine aW ?_
  refine brk.mk (fun hk => ?_) (fun hk => ?_)
  · have hk' : lookF name data.size ≠ 0 := fun e => by rw [e] at hk; simp at hk
    refine aW ?_
    refine Rq.rt ?_
    refine And.intro rfl ?_
    unfold postF
    rw [if_pos hk']
    exact AVle.refl _
  have hk0 : lookF name data.size = 0 := by have := (by simpa using hk : ((lookF name data.size : Nat) : Int) = 0); omega
  have hd : data.size ≤ 65536 := by
    unfold lookF at hk0
    split at hk0
    · cases hk0
    · split at hk0
      · cases hk0
      · omega
  have hpost : postF S L name data = (shK (putC S name fun _ => data) S L 5, lf L 5, firstF (tdK (putC S name fun _ => data) L 5) 0 5) := by
    unfold postF
    rw [if_neg (fun h => h hk0)]
  rw [hpost]
  obtain ⟨c, hcd⟩ : ∃ c, c = putC S name fun _ => data := ⟨_, rfl⟩
  rw [← hcd]
  have hc1 : ∀ j, (c j).1 = (put (S j) name data).1 := fun j => by rw [hcd]; rfl
  have hc2 : ∀ j, (c j).2 = ⟨⟨#[]⟩, (put (S j) name data).2⟩ := fun j => by rw [hcd]; rfl
  refine aW ?_
  refine XCall.bodyw is34 rfl ?_
  unfold m34
  refine aW ?_
  refine XCall.bodyw is49 rfl ?_
  unfold m49
  refine aW ?_
  refine lpW.mk (fun σ => ∃ i : Nat, i ≤ 5 ∧ σ = ⟨[(1, .fn (.func 69) [] [.p 4 0, .p 5 0]), (2, .p 7 0), (4, .p 8 0), (5, .p 9 0), (7, .p 10 0), (8, .b (gn L i)), (10, .i .i64 ((i : Nat) : Int))], [(0, .lit (st11 S L)), (1, .lit [.s data]), (2, .lit z11), (3, .lit (st11 S L)), (4, .lit [.s name]), (5, .lit [.fn (.func 47) [] [.p 1 0]]), (6, .lit z11), (7, .lit (st11 (shK c S L i) (lf L i))), (8, .lit z11), (9, .lit z15), (10, .lit (t5 (tdK c L i)))], 11⟩) (fun σ => (5 - num 10 σ).toNat) ?_ ?_
  · refine ⟨_, Le.trans (Le.lev (t := 8) rfl (Lev.of (AVle.trans AVle.ff (AVle.of_eq (congrArg AV.b (gn_0 L).symm))))) (Le.mk ?_ ?_ rfl rfl), 0, by decide, rfl⟩
    · exact ⟨rfl, rfl, rfl, rfl, rfl, rfl, rfl, trivial⟩
    · exact ⟨rfl, rfl, rfl, rfl, rfl, rfl, rfl, by rw [shK0, lf0]; rfl, rfl, rfl, by rw [tdK0]; rfl, trivial⟩
  rintro σ' ⟨i, hi, rfl⟩
  obtain rfl | rfl | rfl | rfl | rfl | rfl : i = 0 ∨ i = 1 ∨ i = 2 ∨ i = 3 ∨ i = 4 ∨ i = 5 := by omega
  · refine aW ?_
    refine brk.mk (fun hc => ?_) (fun hc => ?_)
    rotate_left
    · exact absurd hc (by decide)
    refine aW ?_
    refine brk.mk (fun hz => ?_) (fun hz => ?_)
    · have hd0 := dead_of (i := 0) hz
      refine aW ?_
      refine Exists.intro 0 (And.intro rfl (And.intro (by decide) ?_))
      refine aW ?_
      refine Lq.nx _ (Le.trans (Le.lev (t := 8) rfl (Lev.of (AVle.trans AVle.tt (AVle.of_eq (congrArg AV.b (gn_dead hd0).symm))))) (Le.mk ?_ ?_ rfl rfl)) ⟨1, by decide, rfl⟩ ?_
      · exact ⟨rfl, rfl, rfl, rfl, rfl, rfl, rfl, trivial⟩
      · exact ⟨rfl, rfl, rfl, rfl, rfl, rfl, rfl, by rw [shK_dead hd0, lf_dead hd0]; rfl, rfl, rfl, by rw [tdK_step (i := 0) ⟨⟨#[]⟩, 17⟩ (if_neg (by rw [hd0]; decide))]; exact td_e c L 0 (by decide) 17, trivial⟩
      · show (5 - ((1 : Nat) : Int)).toNat < (5 - ((0 : Nat) : Int)).toNat
        decide
    have hv := live_of (i := 0) hz
    have hwr := lf_le (i := 0) hL1 hL2
    have hg := gn_live hv
    refine aW ?_
    refine brk.mk (fun hp => ?_) (fun hp => ?_)
    · refine aW ?_
      have hl := lf_dec hv (of_decide_eq_true hp)
      have hw : IntKind.i64.wrap (lf L 0 - 1) = lf L 1 := by rw [wrap_int (by have := of_decide_eq_true hp; omega) (by omega)]; exact hl.symm
      refine Exists.intro 0 (And.intro rfl (And.intro (by decide) ?_))
      refine XCall.bodyw is69 rfl ?_
      unfold m69
      refine aW ?_
      refine XCall.lenv (post47 ((0 : Nat) : Int) data) rfl ?_
      refine And.intro rfl (And.intro (AVles.refl _) ?_)
      refine And.intro rfl ?_
      refine And.intro rfl ?_
      refine aN ?_
      refine XCall.givv (put13 (S 0) name data (hS 0 (by decide)) (by omega)) ?_
      refine And.intro rfl (And.intro (AVles.cons (AVle.of_eq (congrArg sAV (shK_at (c := c) (S := S) (L := L) (i := 0)))) (AVles.refl _)) ?_)
      refine aN ?_
      refine aW ?_
      refine Rq.rt ?_
      refine Exists.intro 0 (And.intro rfl (And.intro (by decide) ?_))
      refine Exists.intro 0 (And.intro rfl (And.intro (by decide) ?_))
      refine aW ?_
      refine Lq.nx _ (Le.mk ?_ ?_ rfl rfl) ⟨1, by decide, rfl⟩ ?_
      · exact ⟨rfl, rfl, rfl, rfl, rfl, congrArg AV.b (hg.1.trans hg.2.symm), rfl, trivial⟩
      · exact ⟨rfl, rfl, rfl, rfl, rfl, rfl, rfl, by rw [shK_live hv, hc1 0]; exact st_setD (shK c S L 0) _ _ 0 (by decide) (put (S 0) name data).1 hw rfl, rfl, rfl, by rw [tdK_step (i := 0) (c 0).2 (if_pos hv), hc2 0]; exact td_set (tdK c L 0) 0 (by decide) ⟨⟨#[]⟩, (put (S 0) name data).2⟩, trivial⟩
      · show (5 - ((1 : Nat) : Int)).toNat < (5 - ((0 : Nat) : Int)).toNat
        decide
    · refine aW ?_
      have hl := lf_neg hv (of_decide_eq_false hp)
      refine Exists.intro 0 (And.intro rfl (And.intro (by decide) ?_))
      refine XCall.bodyw is69 rfl ?_
      unfold m69
      refine aW ?_
      refine XCall.lenv (post47 ((0 : Nat) : Int) data) rfl ?_
      refine And.intro rfl (And.intro (AVles.refl _) ?_)
      refine And.intro rfl ?_
      refine And.intro rfl ?_
      refine aN ?_
      refine XCall.givv (put13 (S 0) name data (hS 0 (by decide)) (by omega)) ?_
      refine And.intro rfl (And.intro (AVles.cons (AVle.of_eq (congrArg sAV (shK_at (c := c) (S := S) (L := L) (i := 0)))) (AVles.refl _)) ?_)
      refine aN ?_
      refine aW ?_
      refine Rq.rt ?_
      refine Exists.intro 0 (And.intro rfl (And.intro (by decide) ?_))
      refine Exists.intro 0 (And.intro rfl (And.intro (by decide) ?_))
      refine aW ?_
      refine Lq.nx _ (Le.mk ?_ ?_ rfl rfl) ⟨1, by decide, rfl⟩ ?_
      · exact ⟨rfl, rfl, rfl, rfl, rfl, congrArg AV.b (hg.1.trans hg.2.symm), rfl, trivial⟩
      · exact ⟨rfl, rfl, rfl, rfl, rfl, rfl, rfl, by rw [shK_live hv, hc1 0]; exact st_setDN (shK c S L 0) _ _ 0 (by decide) (put (S 0) name data).1 hl.symm, rfl, rfl, by rw [tdK_step (i := 0) (c 0).2 (if_pos hv), hc2 0]; exact td_set (tdK c L 0) 0 (by decide) ⟨⟨#[]⟩, (put (S 0) name data).2⟩, trivial⟩
      · show (5 - ((1 : Nat) : Int)).toNat < (5 - ((0 : Nat) : Int)).toNat
        decide
  · refine aW ?_
    refine brk.mk (fun hc => ?_) (fun hc => ?_)
    rotate_left
    · exact absurd hc (by decide)
    refine aW ?_
    refine brk.mk (fun hz => ?_) (fun hz => ?_)
    · have hd0 := dead_of (i := 1) hz
      refine aW ?_
      refine Exists.intro 1 (And.intro rfl (And.intro (by decide) ?_))
      refine aW ?_
      refine Lq.nx _ (Le.trans (Le.lev (t := 8) rfl (Lev.of (AVle.trans AVle.tt (AVle.of_eq (congrArg AV.b (gn_dead hd0).symm))))) (Le.mk ?_ ?_ rfl rfl)) ⟨2, by decide, rfl⟩ ?_
      · exact ⟨rfl, rfl, rfl, rfl, rfl, rfl, rfl, trivial⟩
      · exact ⟨rfl, rfl, rfl, rfl, rfl, rfl, rfl, by rw [shK_dead hd0, lf_dead hd0]; rfl, rfl, rfl, by rw [tdK_step (i := 1) ⟨⟨#[]⟩, 17⟩ (if_neg (by rw [hd0]; decide))]; exact td_e c L 1 (by decide) 17, trivial⟩
      · show (5 - ((2 : Nat) : Int)).toNat < (5 - ((1 : Nat) : Int)).toNat
        decide
    have hv := live_of (i := 1) hz
    have hwr := lf_le (i := 1) hL1 hL2
    have hg := gn_live hv
    refine aW ?_
    refine brk.mk (fun hp => ?_) (fun hp => ?_)
    · refine aW ?_
      have hl := lf_dec hv (of_decide_eq_true hp)
      have hw : IntKind.i64.wrap (lf L 1 - 1) = lf L 2 := by rw [wrap_int (by have := of_decide_eq_true hp; omega) (by omega)]; exact hl.symm
      refine Exists.intro 1 (And.intro rfl (And.intro (by decide) ?_))
      refine XCall.bodyw is69 rfl ?_
      unfold m69
      refine aW ?_
      refine XCall.lenv (post47 ((1 : Nat) : Int) data) rfl ?_
      refine And.intro rfl (And.intro (AVles.refl _) ?_)
      refine And.intro rfl ?_
      refine And.intro rfl ?_
      refine aN ?_
      refine XCall.givv (put13 (S 1) name data (hS 1 (by decide)) (by omega)) ?_
      refine And.intro rfl (And.intro (AVles.cons (AVle.of_eq (congrArg sAV (shK_at (c := c) (S := S) (L := L) (i := 1)))) (AVles.refl _)) ?_)
      refine aN ?_
      refine aW ?_
      refine Rq.rt ?_
      refine Exists.intro 1 (And.intro rfl (And.intro (by decide) ?_))
      refine Exists.intro 1 (And.intro rfl (And.intro (by decide) ?_))
      refine aW ?_
      refine Lq.nx _ (Le.mk ?_ ?_ rfl rfl) ⟨2, by decide, rfl⟩ ?_
      · exact ⟨rfl, rfl, rfl, rfl, rfl, congrArg AV.b (hg.1.trans hg.2.symm), rfl, trivial⟩
      · exact ⟨rfl, rfl, rfl, rfl, rfl, rfl, rfl, by rw [shK_live hv, hc1 1]; exact st_setD (shK c S L 1) _ _ 1 (by decide) (put (S 1) name data).1 hw rfl, rfl, rfl, by rw [tdK_step (i := 1) (c 1).2 (if_pos hv), hc2 1]; exact td_set (tdK c L 1) 1 (by decide) ⟨⟨#[]⟩, (put (S 1) name data).2⟩, trivial⟩
      · show (5 - ((2 : Nat) : Int)).toNat < (5 - ((1 : Nat) : Int)).toNat
        decide
    · refine aW ?_
      have hl := lf_neg hv (of_decide_eq_false hp)
      refine Exists.intro 1 (And.intro rfl (And.intro (by decide) ?_))
      refine XCall.bodyw is69 rfl ?_
      unfold m69
      refine aW ?_
      refine XCall.lenv (post47 ((1 : Nat) : Int) data) rfl ?_
      refine And.intro rfl (And.intro (AVles.refl _) ?_)
      refine And.intro rfl ?_
      refine And.intro rfl ?_
      refine aN ?_
      refine XCall.givv (put13 (S 1) name data (hS 1 (by decide)) (by omega)) ?_
      refine And.intro rfl (And.intro (AVles.cons (AVle.of_eq (congrArg sAV (shK_at (c := c) (S := S) (L := L) (i := 1)))) (AVles.refl _)) ?_)
      refine aN ?_
      refine aW ?_
      refine Rq.rt ?_
      refine Exists.intro 1 (And.intro rfl (And.intro (by decide) ?_))
      refine Exists.intro 1 (And.intro rfl (And.intro (by decide) ?_))
      refine aW ?_
      refine Lq.nx _ (Le.mk ?_ ?_ rfl rfl) ⟨2, by decide, rfl⟩ ?_
      · exact ⟨rfl, rfl, rfl, rfl, rfl, congrArg AV.b (hg.1.trans hg.2.symm), rfl, trivial⟩
      · exact ⟨rfl, rfl, rfl, rfl, rfl, rfl, rfl, by rw [shK_live hv, hc1 1]; exact st_setDN (shK c S L 1) _ _ 1 (by decide) (put (S 1) name data).1 hl.symm, rfl, rfl, by rw [tdK_step (i := 1) (c 1).2 (if_pos hv), hc2 1]; exact td_set (tdK c L 1) 1 (by decide) ⟨⟨#[]⟩, (put (S 1) name data).2⟩, trivial⟩
      · show (5 - ((2 : Nat) : Int)).toNat < (5 - ((1 : Nat) : Int)).toNat
        decide
  · refine aW ?_
    refine brk.mk (fun hc => ?_) (fun hc => ?_)
    rotate_left
    · exact absurd hc (by decide)
    refine aW ?_
    refine brk.mk (fun hz => ?_) (fun hz => ?_)
    · have hd0 := dead_of (i := 2) hz
      refine aW ?_
      refine Exists.intro 2 (And.intro rfl (And.intro (by decide) ?_))
      refine aW ?_
      refine Lq.nx _ (Le.trans (Le.lev (t := 8) rfl (Lev.of (AVle.trans AVle.tt (AVle.of_eq (congrArg AV.b (gn_dead hd0).symm))))) (Le.mk ?_ ?_ rfl rfl)) ⟨3, by decide, rfl⟩ ?_
      · exact ⟨rfl, rfl, rfl, rfl, rfl, rfl, rfl, trivial⟩
      · exact ⟨rfl, rfl, rfl, rfl, rfl, rfl, rfl, by rw [shK_dead hd0, lf_dead hd0]; rfl, rfl, rfl, by rw [tdK_step (i := 2) ⟨⟨#[]⟩, 17⟩ (if_neg (by rw [hd0]; decide))]; exact td_e c L 2 (by decide) 17, trivial⟩
      · show (5 - ((3 : Nat) : Int)).toNat < (5 - ((2 : Nat) : Int)).toNat
        decide
    have hv := live_of (i := 2) hz
    have hwr := lf_le (i := 2) hL1 hL2
    have hg := gn_live hv
    refine aW ?_
    refine brk.mk (fun hp => ?_) (fun hp => ?_)
    · refine aW ?_
      have hl := lf_dec hv (of_decide_eq_true hp)
      have hw : IntKind.i64.wrap (lf L 2 - 1) = lf L 3 := by rw [wrap_int (by have := of_decide_eq_true hp; omega) (by omega)]; exact hl.symm
      refine Exists.intro 2 (And.intro rfl (And.intro (by decide) ?_))
      refine XCall.bodyw is69 rfl ?_
      unfold m69
      refine aW ?_
      refine XCall.lenv (post47 ((2 : Nat) : Int) data) rfl ?_
      refine And.intro rfl (And.intro (AVles.refl _) ?_)
      refine And.intro rfl ?_
      refine And.intro rfl ?_
      refine aN ?_
      refine XCall.givv (put13 (S 2) name data (hS 2 (by decide)) (by omega)) ?_
      refine And.intro rfl (And.intro (AVles.cons (AVle.of_eq (congrArg sAV (shK_at (c := c) (S := S) (L := L) (i := 2)))) (AVles.refl _)) ?_)
      refine aN ?_
      refine aW ?_
      refine Rq.rt ?_
      refine Exists.intro 2 (And.intro rfl (And.intro (by decide) ?_))
      refine Exists.intro 2 (And.intro rfl (And.intro (by decide) ?_))
      refine aW ?_
      refine Lq.nx _ (Le.mk ?_ ?_ rfl rfl) ⟨3, by decide, rfl⟩ ?_
      · exact ⟨rfl, rfl, rfl, rfl, rfl, congrArg AV.b (hg.1.trans hg.2.symm), rfl, trivial⟩
      · exact ⟨rfl, rfl, rfl, rfl, rfl, rfl, rfl, by rw [shK_live hv, hc1 2]; exact st_setD (shK c S L 2) _ _ 2 (by decide) (put (S 2) name data).1 hw rfl, rfl, rfl, by rw [tdK_step (i := 2) (c 2).2 (if_pos hv), hc2 2]; exact td_set (tdK c L 2) 2 (by decide) ⟨⟨#[]⟩, (put (S 2) name data).2⟩, trivial⟩
      · show (5 - ((3 : Nat) : Int)).toNat < (5 - ((2 : Nat) : Int)).toNat
        decide
    · refine aW ?_
      have hl := lf_neg hv (of_decide_eq_false hp)
      refine Exists.intro 2 (And.intro rfl (And.intro (by decide) ?_))
      refine XCall.bodyw is69 rfl ?_
      unfold m69
      refine aW ?_
      refine XCall.lenv (post47 ((2 : Nat) : Int) data) rfl ?_
      refine And.intro rfl (And.intro (AVles.refl _) ?_)
      refine And.intro rfl ?_
      refine And.intro rfl ?_
      refine aN ?_
      refine XCall.givv (put13 (S 2) name data (hS 2 (by decide)) (by omega)) ?_
      refine And.intro rfl (And.intro (AVles.cons (AVle.of_eq (congrArg sAV (shK_at (c := c) (S := S) (L := L) (i := 2)))) (AVles.refl _)) ?_)
      refine aN ?_
      refine aW ?_
      refine Rq.rt ?_
      refine Exists.intro 2 (And.intro rfl (And.intro (by decide) ?_))
      refine Exists.intro 2 (And.intro rfl (And.intro (by decide) ?_))
      refine aW ?_
      refine Lq.nx _ (Le.mk ?_ ?_ rfl rfl) ⟨3, by decide, rfl⟩ ?_
      · exact ⟨rfl, rfl, rfl, rfl, rfl, congrArg AV.b (hg.1.trans hg.2.symm), rfl, trivial⟩
      · exact ⟨rfl, rfl, rfl, rfl, rfl, rfl, rfl, by rw [shK_live hv, hc1 2]; exact st_setDN (shK c S L 2) _ _ 2 (by decide) (put (S 2) name data).1 hl.symm, rfl, rfl, by rw [tdK_step (i := 2) (c 2).2 (if_pos hv), hc2 2]; exact td_set (tdK c L 2) 2 (by decide) ⟨⟨#[]⟩, (put (S 2) name data).2⟩, trivial⟩
      · show (5 - ((3 : Nat) : Int)).toNat < (5 - ((2 : Nat) : Int)).toNat
        decide
  · refine aW ?_
    refine brk.mk (fun hc => ?_) (fun hc => ?_)
    rotate_left
    · exact absurd hc (by decide)
    refine aW ?_
    refine brk.mk (fun hz => ?_) (fun hz => ?_)
    · have hd0 := dead_of (i := 3) hz
      refine aW ?_
      refine Exists.intro 3 (And.intro rfl (And.intro (by decide) ?_))
      refine aW ?_
      refine Lq.nx _ (Le.trans (Le.lev (t := 8) rfl (Lev.of (AVle.trans AVle.tt (AVle.of_eq (congrArg AV.b (gn_dead hd0).symm))))) (Le.mk ?_ ?_ rfl rfl)) ⟨4, by decide, rfl⟩ ?_
      · exact ⟨rfl, rfl, rfl, rfl, rfl, rfl, rfl, trivial⟩
      · exact ⟨rfl, rfl, rfl, rfl, rfl, rfl, rfl, by rw [shK_dead hd0, lf_dead hd0]; rfl, rfl, rfl, by rw [tdK_step (i := 3) ⟨⟨#[]⟩, 17⟩ (if_neg (by rw [hd0]; decide))]; exact td_e c L 3 (by decide) 17, trivial⟩
      · show (5 - ((4 : Nat) : Int)).toNat < (5 - ((3 : Nat) : Int)).toNat
        decide
    have hv := live_of (i := 3) hz
    have hwr := lf_le (i := 3) hL1 hL2
    have hg := gn_live hv
    refine aW ?_
    refine brk.mk (fun hp => ?_) (fun hp => ?_)
    · refine aW ?_
      have hl := lf_dec hv (of_decide_eq_true hp)
      have hw : IntKind.i64.wrap (lf L 3 - 1) = lf L 4 := by rw [wrap_int (by have := of_decide_eq_true hp; omega) (by omega)]; exact hl.symm
      refine Exists.intro 3 (And.intro rfl (And.intro (by decide) ?_))
      refine XCall.bodyw is69 rfl ?_
      unfold m69
      refine aW ?_
      refine XCall.lenv (post47 ((3 : Nat) : Int) data) rfl ?_
      refine And.intro rfl (And.intro (AVles.refl _) ?_)
      refine And.intro rfl ?_
      refine And.intro rfl ?_
      refine aN ?_
      refine XCall.givv (put13 (S 3) name data (hS 3 (by decide)) (by omega)) ?_
      refine And.intro rfl (And.intro (AVles.cons (AVle.of_eq (congrArg sAV (shK_at (c := c) (S := S) (L := L) (i := 3)))) (AVles.refl _)) ?_)
      refine aN ?_
      refine aW ?_
      refine Rq.rt ?_
      refine Exists.intro 3 (And.intro rfl (And.intro (by decide) ?_))
      refine Exists.intro 3 (And.intro rfl (And.intro (by decide) ?_))
      refine aW ?_
      refine Lq.nx _ (Le.mk ?_ ?_ rfl rfl) ⟨4, by decide, rfl⟩ ?_
      · exact ⟨rfl, rfl, rfl, rfl, rfl, congrArg AV.b (hg.1.trans hg.2.symm), rfl, trivial⟩
      · exact ⟨rfl, rfl, rfl, rfl, rfl, rfl, rfl, by rw [shK_live hv, hc1 3]; exact st_setD (shK c S L 3) _ _ 3 (by decide) (put (S 3) name data).1 hw rfl, rfl, rfl, by rw [tdK_step (i := 3) (c 3).2 (if_pos hv), hc2 3]; exact td_set (tdK c L 3) 3 (by decide) ⟨⟨#[]⟩, (put (S 3) name data).2⟩, trivial⟩
      · show (5 - ((4 : Nat) : Int)).toNat < (5 - ((3 : Nat) : Int)).toNat
        decide
    · refine aW ?_
      have hl := lf_neg hv (of_decide_eq_false hp)
      refine Exists.intro 3 (And.intro rfl (And.intro (by decide) ?_))
      refine XCall.bodyw is69 rfl ?_
      unfold m69
      refine aW ?_
      refine XCall.lenv (post47 ((3 : Nat) : Int) data) rfl ?_
      refine And.intro rfl (And.intro (AVles.refl _) ?_)
      refine And.intro rfl ?_
      refine And.intro rfl ?_
      refine aN ?_
      refine XCall.givv (put13 (S 3) name data (hS 3 (by decide)) (by omega)) ?_
      refine And.intro rfl (And.intro (AVles.cons (AVle.of_eq (congrArg sAV (shK_at (c := c) (S := S) (L := L) (i := 3)))) (AVles.refl _)) ?_)
      refine aN ?_
      refine aW ?_
      refine Rq.rt ?_
      refine Exists.intro 3 (And.intro rfl (And.intro (by decide) ?_))
      refine Exists.intro 3 (And.intro rfl (And.intro (by decide) ?_))
      refine aW ?_
      refine Lq.nx _ (Le.mk ?_ ?_ rfl rfl) ⟨4, by decide, rfl⟩ ?_
      · exact ⟨rfl, rfl, rfl, rfl, rfl, congrArg AV.b (hg.1.trans hg.2.symm), rfl, trivial⟩
      · exact ⟨rfl, rfl, rfl, rfl, rfl, rfl, rfl, by rw [shK_live hv, hc1 3]; exact st_setDN (shK c S L 3) _ _ 3 (by decide) (put (S 3) name data).1 hl.symm, rfl, rfl, by rw [tdK_step (i := 3) (c 3).2 (if_pos hv), hc2 3]; exact td_set (tdK c L 3) 3 (by decide) ⟨⟨#[]⟩, (put (S 3) name data).2⟩, trivial⟩
      · show (5 - ((4 : Nat) : Int)).toNat < (5 - ((3 : Nat) : Int)).toNat
        decide
  · refine aW ?_
    refine brk.mk (fun hc => ?_) (fun hc => ?_)
    rotate_left
    · exact absurd hc (by decide)
    refine aW ?_
    refine brk.mk (fun hz => ?_) (fun hz => ?_)
    · have hd0 := dead_of (i := 4) hz
      refine aW ?_
      refine Exists.intro 4 (And.intro rfl (And.intro (by decide) ?_))
      refine aW ?_
      refine Lq.nx _ (Le.trans (Le.lev (t := 8) rfl (Lev.of (AVle.trans AVle.tt (AVle.of_eq (congrArg AV.b (gn_dead hd0).symm))))) (Le.mk ?_ ?_ rfl rfl)) ⟨5, by decide, rfl⟩ ?_
      · exact ⟨rfl, rfl, rfl, rfl, rfl, rfl, rfl, trivial⟩
      · exact ⟨rfl, rfl, rfl, rfl, rfl, rfl, rfl, by rw [shK_dead hd0, lf_dead hd0]; rfl, rfl, rfl, by rw [tdK_step (i := 4) ⟨⟨#[]⟩, 17⟩ (if_neg (by rw [hd0]; decide))]; exact td_e c L 4 (by decide) 17, trivial⟩
      · show (5 - ((5 : Nat) : Int)).toNat < (5 - ((4 : Nat) : Int)).toNat
        decide
    have hv := live_of (i := 4) hz
    have hwr := lf_le (i := 4) hL1 hL2
    have hg := gn_live hv
    refine aW ?_
    refine brk.mk (fun hp => ?_) (fun hp => ?_)
    · refine aW ?_
      have hl := lf_dec hv (of_decide_eq_true hp)
      have hw : IntKind.i64.wrap (lf L 4 - 1) = lf L 5 := by rw [wrap_int (by have := of_decide_eq_true hp; omega) (by omega)]; exact hl.symm
      refine Exists.intro 4 (And.intro rfl (And.intro (by decide) ?_))
      refine XCall.bodyw is69 rfl ?_
      unfold m69
      refine aW ?_
      refine XCall.lenv (post47 ((4 : Nat) : Int) data) rfl ?_
      refine And.intro rfl (And.intro (AVles.refl _) ?_)
      refine And.intro rfl ?_
      refine And.intro rfl ?_
      refine aN ?_
      refine XCall.givv (put13 (S 4) name data (hS 4 (by decide)) (by omega)) ?_
      refine And.intro rfl (And.intro (AVles.cons (AVle.of_eq (congrArg sAV (shK_at (c := c) (S := S) (L := L) (i := 4)))) (AVles.refl _)) ?_)
      refine aN ?_
      refine aW ?_
      refine Rq.rt ?_
      refine Exists.intro 4 (And.intro rfl (And.intro (by decide) ?_))
      refine Exists.intro 4 (And.intro rfl (And.intro (by decide) ?_))
      refine aW ?_
      refine Lq.nx _ (Le.mk ?_ ?_ rfl rfl) ⟨5, by decide, rfl⟩ ?_
      · exact ⟨rfl, rfl, rfl, rfl, rfl, congrArg AV.b (hg.1.trans hg.2.symm), rfl, trivial⟩
      · exact ⟨rfl, rfl, rfl, rfl, rfl, rfl, rfl, by rw [shK_live hv, hc1 4]; exact st_setD (shK c S L 4) _ _ 4 (by decide) (put (S 4) name data).1 hw rfl, rfl, rfl, by rw [tdK_step (i := 4) (c 4).2 (if_pos hv), hc2 4]; exact td_set (tdK c L 4) 4 (by decide) ⟨⟨#[]⟩, (put (S 4) name data).2⟩, trivial⟩
      · show (5 - ((5 : Nat) : Int)).toNat < (5 - ((4 : Nat) : Int)).toNat
        decide
    · refine aW ?_
      have hl := lf_neg hv (of_decide_eq_false hp)
      refine Exists.intro 4 (And.intro rfl (And.intro (by decide) ?_))
      refine XCall.bodyw is69 rfl ?_
      unfold m69
      refine aW ?_
      refine XCall.lenv (post47 ((4 : Nat) : Int) data) rfl ?_
      refine And.intro rfl (And.intro (AVles.refl _) ?_)
      refine And.intro rfl ?_
      refine And.intro rfl ?_
      refine aN ?_
      refine XCall.givv (put13 (S 4) name data (hS 4 (by decide)) (by omega)) ?_
      refine And.intro rfl (And.intro (AVles.cons (AVle.of_eq (congrArg sAV (shK_at (c := c) (S := S) (L := L) (i := 4)))) (AVles.refl _)) ?_)
      refine aN ?_
      refine aW ?_
      refine Rq.rt ?_
      refine Exists.intro 4 (And.intro rfl (And.intro (by decide) ?_))
      refine Exists.intro 4 (And.intro rfl (And.intro (by decide) ?_))
      refine aW ?_
      refine Lq.nx _ (Le.mk ?_ ?_ rfl rfl) ⟨5, by decide, rfl⟩ ?_
      · exact ⟨rfl, rfl, rfl, rfl, rfl, congrArg AV.b (hg.1.trans hg.2.symm), rfl, trivial⟩
      · exact ⟨rfl, rfl, rfl, rfl, rfl, rfl, rfl, by rw [shK_live hv, hc1 4]; exact st_setDN (shK c S L 4) _ _ 4 (by decide) (put (S 4) name data).1 hl.symm, rfl, rfl, by rw [tdK_step (i := 4) (c 4).2 (if_pos hv), hc2 4]; exact td_set (tdK c L 4) 4 (by decide) ⟨⟨#[]⟩, (put (S 4) name data).2⟩, trivial⟩
      · show (5 - ((5 : Nat) : Int)).toNat < (5 - ((4 : Nat) : Int)).toNat
        decide
  · refine aW ?_
    refine brk.mk (fun hc => ?_) (fun hc => ?_)
    · exact absurd hc (by decide)
    refine aW ?_
    refine And.intro rfl ?_
    refine aN ?_
    refine aW ?_
    refine Rq.rt ?_
    refine aN ?_
    refine aW ?_
    refine XCall.lenv (first52 (tdK c L 5) 0) rfl ?_
    refine And.intro rfl (And.intro (AVles.refl _) ?_)
    refine And.intro rfl ?_
    refine aN ?_
    refine aW ?_
    refine Rq.rt ?_
    refine aN ?_
    refine aW ?_
    refine Rq.rt ?_
    refine And.intro rfl ?_
    exact AVle.refl _
end Go.Proofs.T

namespace Go.Proofs.T
open Go Go.Hb

def getC (S : Nat → Sh) (name : ByteArray) : Nat → Sh × Td := fun j => ((get (S j) name).1, ⟨(get (S j) name).2.1, (get (S j) name).2.2⟩)
def gt3 (c : Nat → Sh × Td) (S : Nat → Sh) (L : Int) : AV := .tup [stA (shK c S L 5) (lf L 5), .agg (t5 (tdK c L 5)), .b (gn L 5)]
set_option maxHeartbeats 4000000 in
theorem get_core (S : Nat → Sh) (L : Int) (name : ByteArray) (c : Nat → Sh × Td) (hcd : c = getC S name) (hS : ∀ i, i < 5 → Small (S i)) (hL1 : -9223372036854775808 ≤ L) (hL2 : L < 9223372036854775808) :
    Pure Tryz.prog 40 [stA S L, .s name] (fun r => r = gt3 c S L) := by
  have hc1 : ∀ j, (c j).1 = (get (S j) name).1 := fun j => by rw [hcd]; rfl
  have hc2 : ∀ j, (c j).2 = ⟨(get (S j) name).2.1, (get (S j) name).2.2⟩ := fun j => by rw [hcd]; rfl
  refine Pure.weak (Post := fun v => AVle v (gt3 c S L)) (Pure.of (XCall.bodyw is40 rfl ?_)) fun r h => ⟨_, rfl, h⟩
  unfold m40
  refine aW ?_
  refine XCall.bodyw is49 rfl ?_
  unfold m49
  refine aW ?_
  refine lpW.mk (fun σ => ∃ i : Nat, i ≤ 5 ∧ σ = ⟨[(1, .fn (.func 79) [] [.p 1 0]), (2, .p 4 0), (4, .p 5 0), (5, .p 6 0), (7, .p 7 0), (8, .b (gn L i)), (10, .i .i64 ((i : Nat) : Int))], [(0, .lit (st11 S L)), (1, .lit [.s name]), (2, .lit z11), (3, .lit z15), (4, .lit (st11 (shK c S L i) (lf L i))), (5, .lit z11), (6, .lit z15), (7, .lit (t5 (tdK c L i)))], 8⟩) (fun σ => (5 - num 10 σ).toNat) ?_ ?_
  · refine ⟨_, Le.trans (Le.lev (t := 8) rfl (Lev.of (AVle.trans AVle.ff (AVle.of_eq (congrArg AV.b (gn_0 L).symm))))) (Le.mk ?_ ?_ rfl rfl), 0, by decide, rfl⟩
    · exact ⟨rfl, rfl, rfl, rfl, rfl, rfl, rfl, trivial⟩
    · exact ⟨rfl, rfl, rfl, rfl, by rw [shK0, lf0]; rfl, rfl, rfl, by rw [tdK0]; rfl, trivial⟩
  rintro σ' ⟨i, hi, rfl⟩
  obtain rfl | rfl | rfl | rfl | rfl | rfl : i = 0 ∨ i = 1 ∨ i = 2 ∨ i = 3 ∨ i = 4 ∨ i = 5 := by omega
  · refine aW ?_
    refine brk.mk (fun hc => ?_) (fun hc => ?_)
    rotate_left
    · exact absurd hc (by decide)
    refine aW ?_
    refine brk.mk (fun hz => ?_) (fun hz => ?_)
    · have hd0 := dead_of (i := 0) hz
      refine aW ?_
      refine Exists.intro 0 (And.intro rfl (And.intro (by decide) ?_))
      refine aW ?_
      refine Lq.nx _ (Le.trans (Le.lev (t := 8) rfl (Lev.of (AVle.trans AVle.tt (AVle.of_eq (congrArg AV.b (gn_dead hd0).symm))))) (Le.mk ?_ ?_ rfl rfl)) ⟨1, by decide, rfl⟩ ?_
      · exact ⟨rfl, rfl, rfl, rfl, rfl, rfl, rfl, trivial⟩
      · exact ⟨rfl, rfl, rfl, rfl, by rw [shK_dead hd0, lf_dead hd0]; rfl, rfl, rfl, by rw [tdK_step (i := 0) ⟨⟨#[]⟩, 17⟩ (if_neg (by rw [hd0]; decide))]; exact td_e c L 0 (by decide) 17, trivial⟩
      · show (5 - ((1 : Nat) : Int)).toNat < (5 - ((0 : Nat) : Int)).toNat
        decide
    have hv := live_of (i := 0) hz
    have hwr := lf_le (i := 0) hL1 hL2
    have hg := gn_live hv
    refine aW ?_
    refine brk.mk (fun hp => ?_) (fun hp => ?_)
    · refine aW ?_
      have hl := lf_dec hv (of_decide_eq_true hp)
      have hw : IntKind.i64.wrap (lf L 0 - 1) = lf L 1 := by rw [wrap_int (by have := of_decide_eq_true hp; omega) (by omega)]; exact hl.symm
      refine Exists.intro 0 (And.intro rfl (And.intro (by decide) ?_))
      refine XCall.bodyw is79 rfl ?_
      unfold m79
      refine aW ?_
      refine XCall.givv (get12 (S 0) name (hS 0 (by decide))) ?_
      refine And.intro rfl (And.intro (AVles.cons (AVle.of_eq (congrArg sAV (shK_at (c := c) (S := S) (L := L) (i := 0)))) (AVles.refl _)) ?_)
      refine aN ?_
      refine aW ?_
      refine Rq.rt ?_
      refine Exists.intro 0 (And.intro rfl (And.intro (by decide) ?_))
      refine Exists.intro 0 (And.intro rfl (And.intro (by decide) ?_))
      refine aW ?_
      refine Lq.nx _ (Le.mk ?_ ?_ rfl rfl) ⟨1, by decide, rfl⟩ ?_
      · exact ⟨rfl, rfl, rfl, rfl, rfl, congrArg AV.b (hg.1.trans hg.2.symm), rfl, trivial⟩
      · exact ⟨rfl, rfl, rfl, rfl, by rw [shK_live hv, hc1 0]; exact st_setD (shK c S L 0) _ _ 0 (by decide) (get (S 0) name).1 hw rfl, rfl, rfl, by rw [tdK_step (i := 0) (c 0).2 (if_pos hv), hc2 0]; exact td_set (tdK c L 0) 0 (by decide) ⟨(get (S 0) name).2.1, (get (S 0) name).2.2⟩, trivial⟩
      · show (5 - ((1 : Nat) : Int)).toNat < (5 - ((0 : Nat) : Int)).toNat
        decide
    · refine aW ?_
      have hl := lf_neg hv (of_decide_eq_false hp)
      refine Exists.intro 0 (And.intro rfl (And.intro (by decide) ?_))
      refine XCall.bodyw is79 rfl ?_
      unfold m79
      refine aW ?_
      refine XCall.givv (get12 (S 0) name (hS 0 (by decide))) ?_
      refine And.intro rfl (And.intro (AVles.cons (AVle.of_eq (congrArg sAV (shK_at (c := c) (S := S) (L := L) (i := 0)))) (AVles.refl _)) ?_)
      refine aN ?_
      refine aW ?_
      refine Rq.rt ?_
      refine Exists.intro 0 (And.intro rfl (And.intro (by decide) ?_))
      refine Exists.intro 0 (And.intro rfl (And.intro (by decide) ?_))
      refine aW ?_
      refine Lq.nx _ (Le.mk ?_ ?_ rfl rfl) ⟨1, by decide, rfl⟩ ?_
      · exact ⟨rfl, rfl, rfl, rfl, rfl, congrArg AV.b (hg.1.trans hg.2.symm), rfl, trivial⟩
      · exact ⟨rfl, rfl, rfl, rfl, by rw [shK_live hv, hc1 0]; exact st_setDN (shK c S L 0) _ _ 0 (by decide) (get (S 0) name).1 hl.symm, rfl, rfl, by rw [tdK_step (i := 0) (c 0).2 (if_pos hv), hc2 0]; exact td_set (tdK c L 0) 0 (by decide) ⟨(get (S 0) name).2.1, (get (S 0) name).2.2⟩, trivial⟩
      · show (5 - ((1 : Nat) : Int)).toNat < (5 - ((0 : Nat) : Int)).toNat
        decide
  · refine aW ?_
    refine brk.mk (fun hc => ?_) (fun hc => ?_)
    rotate_left
    · exact absurd hc (by decide)
    refine aW ?_
    refine brk.mk (fun hz => ?_) (fun hz => ?_)
    · have hd0 := dead_of (i := 1) hz
      refine aW ?_
      refine Exists.intro 1 (And.intro rfl (And.intro (by decide) ?_))
      refine aW ?_
      refine Lq.nx _ (Le.trans (Le.lev (t := 8) rfl (Lev.of (AVle.trans AVle.tt (AVle.of_eq (congrArg AV.b (gn_dead hd0).symm))))) (Le.mk ?_ ?_ rfl rfl)) ⟨2, by decide, rfl⟩ ?_
      · exact ⟨rfl, rfl, rfl, rfl, rfl, rfl, rfl, trivial⟩
      · exact ⟨rfl, rfl, rfl, rfl, by rw [shK_dead hd0, lf_dead hd0]; rfl, rfl, rfl, by rw [tdK_step (i := 1) ⟨⟨#[]⟩, 17⟩ (if_neg (by rw [hd0]; decide))]; exact td_e c L 1 (by decide) 17, trivial⟩
      · show (5 - ((2 : Nat) : Int)).toNat < (5 - ((1 : Nat) : Int)).toNat
        decide
    have hv := live_of (i := 1) hz
    have hwr := lf_le (i := 1) hL1 hL2
    have hg := gn_live hv
    refine aW ?_
    refine brk.mk (fun hp => ?_) (fun hp => ?_)
    · refine aW ?_
      have hl := lf_dec hv (of_decide_eq_true hp)
      have hw : IntKind.i64.wrap (lf L 1 - 1) = lf L 2 := by rw [wrap_int (by have := of_decide_eq_true hp; omega) (by omega)]; exact hl.symm
      refine Exists.intro 1 (And.intro rfl (And.intro (by decide) ?_))
      refine XCall.bodyw is79 rfl ?_
      unfold m79
      refine aW ?_
      refine XCall.givv (get12 (S 1) name (hS 1 (by decide))) ?_
      refine And.intro rfl (And.intro (AVles.cons (AVle.of_eq (congrArg sAV (shK_at (c := c) (S := S) (L := L) (i := 1)))) (AVles.refl _)) ?_)
      refine aN ?_
      refine aW ?_
      refine Rq.rt ?_
      refine Exists.intro 1 (And.intro rfl (And.intro (by decide) ?_))
      refine Exists.intro 1 (And.intro rfl (And.intro (by decide) ?_))
      refine aW ?_
      refine Lq.nx _ (Le.mk ?_ ?_ rfl rfl) ⟨2, by decide, rfl⟩ ?_
      · exact ⟨rfl, rfl, rfl, rfl, rfl, congrArg AV.b (hg.1.trans hg.2.symm), rfl, trivial⟩
      · exact ⟨rfl, rfl, rfl, rfl, by rw [shK_live hv, hc1 1]; exact st_setD (shK c S L 1) _ _ 1 (by decide) (get (S 1) name).1 hw rfl, rfl, rfl, by rw [tdK_step (i := 1) (c 1).2 (if_pos hv), hc2 1]; exact td_set (tdK c L 1) 1 (by decide) ⟨(get (S 1) name).2.1, (get (S 1) name).2.2⟩, trivial⟩
      · show (5 - ((2 : Nat) : Int)).toNat < (5 - ((1 : Nat) : Int)).toNat
        decide
    · refine aW ?_
      have hl := lf_neg hv (of_decide_eq_false hp)
      refine Exists.intro 1 (And.intro rfl (And.intro (by decide) ?_))
      refine XCall.bodyw is79 rfl ?_
      unfold m79
      refine aW ?_
      refine XCall.givv (get12 (S 1) name (hS 1 (by decide))) ?_
      refine And.intro rfl (And.intro (AVles.cons (AVle.of_eq (congrArg sAV (shK_at (c := c) (S := S) (L := L) (i := 1)))) (AVles.refl _)) ?_)
      refine aN ?_
      refine aW ?_
      refine Rq.rt ?_
      refine Exists.intro 1 (And.intro rfl (And.intro (by decide) ?_))
      refine Exists.intro 1 (And.intro rfl (And.intro (by decide) ?_))
      refine aW ?_
      refine Lq.nx _ (Le.mk ?_ ?_ rfl rfl) ⟨2, by decide, rfl⟩ ?_
      · exact ⟨rfl, rfl, rfl, rfl, rfl, congrArg AV.b (hg.1.trans hg.2.symm), rfl, trivial⟩
      · exact ⟨rfl, rfl, rfl, rfl, by rw [shK_live hv, hc1 1]; exact st_setDN (shK c S L 1) _ _ 1 (by decide) (get (S 1) name).1 hl.symm, rfl, rfl, by rw [tdK_step (i := 1) (c 1).2 (if_pos hv), hc2 1]; exact td_set (tdK c L 1) 1 (by decide) ⟨(get (S 1) name).2.1, (get (S 1) name).2.2⟩, trivial⟩
      · show (5 - ((2 : Nat) : Int)).toNat < (5 - ((1 : Nat) : Int)).toNat
        decide
  · refine aW ?_
    refine brk.mk (fun hc => ?_) (fun hc => ?_)
    rotate_left
    · exact absurd hc (by decide)
    refine aW ?_
    refine brk.mk (fun hz => ?_) (fun hz => ?_)
    · have hd0 := dead_of (i := 2) hz
      refine aW ?_
      refine Exists.intro 2 (And.intro rfl (And.intro (by decide) ?_))
      refine aW ?_
      refine Lq.nx _ (Le.trans (Le.lev (t := 8) rfl (Lev.of (AVle.trans AVle.tt (AVle.of_eq (congrArg AV.b (gn_dead hd0).symm))))) (Le.mk ?_ ?_ rfl rfl)) ⟨3, by decide, rfl⟩ ?_
      · exact ⟨rfl, rfl, rfl, rfl, rfl, rfl, rfl, trivial⟩
      · exact ⟨rfl, rfl, rfl, rfl, by rw [shK_dead hd0, lf_dead hd0]; rfl, rfl, rfl, by rw [tdK_step (i := 2) ⟨⟨#[]⟩, 17⟩ (if_neg (by rw [hd0]; decide))]; exact td_e c L 2 (by decide) 17, trivial⟩
      · show (5 - ((3 : Nat) : Int)).toNat < (5 - ((2 : Nat) : Int)).toNat
        decide
    have hv := live_of (i := 2) hz
    have hwr := lf_le (i := 2) hL1 hL2
    have hg := gn_live hv
    refine aW ?_
    refine brk.mk (fun hp => ?_) (fun hp => ?_)
    · refine aW ?_
      have hl := lf_dec hv (of_decide_eq_true hp)
      have hw : IntKind.i64.wrap (lf L 2 - 1) = lf L 3 := by rw [wrap_int (by have := of_decide_eq_true hp; omega) (by omega)]; exact hl.symm
      refine Exists.intro 2 (And.intro rfl (And.intro (by decide) ?_))
      refine XCall.bodyw is79 rfl ?_
      unfold m79
      refine aW ?_
      refine XCall.givv (get12 (S 2) name (hS 2 (by decide))) ?_
      refine And.intro rfl (And.intro (AVles.cons (AVle.of_eq (congrArg sAV (shK_at (c := c) (S := S) (L := L) (i := 2)))) (AVles.refl _)) ?_)
      refine aN ?_
      refine aW ?_
      refine Rq.rt ?_
      refine Exists.intro 2 (And.intro rfl (And.intro (by decide) ?_))
      refine Exists.intro 2 (And.intro rfl (And.intro (by decide) ?_))
      refine aW ?_
      refine Lq.nx _ (Le.mk ?_ ?_ rfl rfl) ⟨3, by decide, rfl⟩ ?_
      · exact ⟨rfl, rfl, rfl, rfl, rfl, congrArg AV.b (hg.1.trans hg.2.symm), rfl, trivial⟩
      · exact ⟨rfl, rfl, rfl, rfl, by rw [shK_live hv, hc1 2]; exact st_setD (shK c S L 2) _ _ 2 (by decide) (get (S 2) name).1 hw rfl, rfl, rfl, by rw [tdK_step (i := 2) (c 2).2 (if_pos hv), hc2 2]; exact td_set (tdK c L 2) 2 (by decide) ⟨(get (S 2) name).2.1, (get (S 2) name).2.2⟩, trivial⟩
      · show (5 - ((3 : Nat) : Int)).toNat < (5 - ((2 : Nat) : Int)).toNat
        decide
    · refine aW ?_
      have hl := lf_neg hv (of_decide_eq_false hp)
      refine Exists.intro 2 (And.intro rfl (And.intro (by decide) ?_))
      refine XCall.bodyw is79 rfl ?_
      unfold m79
      refine aW ?_
      refine XCall.givv (get12 (S 2) name (hS 2 (by decide))) ?_
      refine And.intro rfl (And.intro (AVles.cons (AVle.of_eq (congrArg sAV (shK_at (c := c) (S := S) (L := L) (i := 2)))) (AVles.refl _)) ?_)
      refine aN ?_
      refine aW ?_
      refine Rq.rt ?_
      refine Exists.intro 2 (And.intro rfl (And.intro (by decide) ?_))
      refine Exists.intro 2 (And.intro rfl (And.intro (by decide) ?_))
      refine aW ?_
      refine Lq.nx _ (Le.mk ?_ ?_ rfl rfl) ⟨3, by decide, rfl⟩ ?_
      · exact ⟨rfl, rfl, rfl, rfl, rfl, congrArg AV.b (hg.1.trans hg.2.symm), rfl, trivial⟩
      · exact ⟨rfl, rfl, rfl, rfl, by rw [shK_live hv, hc1 2]; exact st_setDN (shK c S L 2) _ _ 2 (by decide) (get (S 2) name).1 hl.symm, rfl, rfl, by rw [tdK_step (i := 2) (c 2).2 (if_pos hv), hc2 2]; exact td_set (tdK c L 2) 2 (by decide) ⟨(get (S 2) name).2.1, (get (S 2) name).2.2⟩, trivial⟩
      · show (5 - ((3 : Nat) : Int)).toNat < (5 - ((2 : Nat) : Int)).toNat
        decide
  · refine aW ?_
    refine brk.mk (fun hc => ?_) (fun hc => ?_)
    rotate_left
    · exact absurd hc (by decide)
    refine aW ?_
    refine brk.mk (fun hz => ?_) (fun hz => ?_)
    · have hd0 := dead_of (i := 3) hz
      refine aW ?_
      refine Exists.intro 3 (And.intro rfl (And.intro (by decide) ?_))
      refine aW ?_
      refine Lq.nx _ (Le.trans (Le.lev (t := 8) rfl (Lev.of (AVle.trans AVle.tt (AVle.of_eq (congrArg AV.b (gn_dead hd0).symm))))) (Le.mk ?_ ?_ rfl rfl)) ⟨4, by decide, rfl⟩ ?_
      · exact ⟨rfl, rfl, rfl, rfl, rfl, rfl, rfl, trivial⟩
      · exact ⟨rfl, rfl, rfl, rfl, by rw [shK_dead hd0, lf_dead hd0]; rfl, rfl, rfl, by rw [tdK_step (i := 3) ⟨⟨#[]⟩, 17⟩ (if_neg (by rw [hd0]; decide))]; exact td_e c L 3 (by decide) 17, trivial⟩
      · show (5 - ((4 : Nat) : Int)).toNat < (5 - ((3 : Nat) : Int)).toNat
        decide
    have hv := live_of (i := 3) hz
    have hwr := lf_le (i := 3) hL1 hL2
    have hg := gn_live hv
    refine aW ?_
    refine brk.mk (fun hp => ?_) (fun hp => ?_)
    · refine aW ?_
      have hl := lf_dec hv (of_decide_eq_true hp)
      have hw : IntKind.i64.wrap (lf L 3 - 1) = lf L 4 := by rw [wrap_int (by have := of_decide_eq_true hp; omega) (by omega)]; exact hl.symm
      refine Exists.intro 3 (And.intro rfl (And.intro (by decide) ?_))
      refine XCall.bodyw is79 rfl ?_
      unfold m79
      refine aW ?_
      refine XCall.givv (get12 (S 3) name (hS 3 (by decide))) ?_
      refine And.intro rfl (And.intro (AVles.cons (AVle.of_eq (congrArg sAV (shK_at (c := c) (S := S) (L := L) (i := 3)))) (AVles.refl _)) ?_)
      refine aN ?_
      refine aW ?_
      refine Rq.rt ?_
      refine Exists.intro 3 (And.intro rfl (And.intro (by decide) ?_))
      refine Exists.intro 3 (And.intro rfl (And.intro (by decide) ?_))
      refine aW ?_
      refine Lq.nx _ (Le.mk ?_ ?_ rfl rfl) ⟨4, by decide, rfl⟩ ?_
      · exact ⟨rfl, rfl, rfl, rfl, rfl, congrArg AV.b (hg.1.trans hg.2.symm), rfl, trivial⟩
      · exact ⟨rfl, rfl, rfl, rfl, by rw [shK_live hv, hc1 3]; exact st_setD (shK c S L 3) _ _ 3 (by decide) (get (S 3) name).1 hw rfl, rfl, rfl, by rw [tdK_step (i := 3) (c 3).2 (if_pos hv), hc2 3]; exact td_set (tdK c L 3) 3 (by decide) ⟨(get (S 3) name).2.1, (get (S 3) name).2.2⟩, trivial⟩
      · show (5 - ((4 : Nat) : Int)).toNat < (5 - ((3 : Nat) : Int)).toNat
        decide
    · refine aW ?_
      have hl := lf_neg hv (of_decide_eq_false hp)
      refine Exists.intro 3 (And.intro rfl (And.intro (by decide) ?_))
      refine XCall.bodyw is79 rfl ?_
      unfold m79
      refine aW ?_
      refine XCall.givv (get12 (S 3) name (hS 3 (by decide))) ?_
      refine And.intro rfl (And.intro (AVles.cons (AVle.of_eq (congrArg sAV (shK_at (c := c) (S := S) (L := L) (i := 3)))) (AVles.refl _)) ?_)
      refine aN ?_
      refine aW ?_
      refine Rq.rt ?_
      refine Exists.intro 3 (And.intro rfl (And.intro (by decide) ?_))
      refine Exists.intro 3 (And.intro rfl (And.intro (by decide) ?_))
      refine aW ?_
      refine Lq.nx _ (Le.mk ?_ ?_ rfl rfl) ⟨4, by decide, rfl⟩ ?_
      · exact ⟨rfl, rfl, rfl, rfl, rfl, congrArg AV.b (hg.1.trans hg.2.symm), rfl, trivial⟩
      · exact ⟨rfl, rfl, rfl, rfl, by rw [shK_live hv, hc1 3]; exact st_setDN (shK c S L 3) _ _ 3 (by decide) (get (S 3) name).1 hl.symm, rfl, rfl, by rw [tdK_step (i := 3) (c 3).2 (if_pos hv), hc2 3]; exact td_set (tdK c L 3) 3 (by decide) ⟨(get (S 3) name).2.1, (get (S 3) name).2.2⟩, trivial⟩
      · show (5 - ((4 : Nat) : Int)).toNat < (5 - ((3 : Nat) : Int)).toNat
        decide
  · refine aW ?_
    refine brk.mk (fun hc => ?_) (fun hc => ?_)
    rotate_left
    · exact absurd hc (by decide)
    refine aW ?_
    refine brk.mk (fun hz => ?_) (fun hz => ?_)
    · have hd0 := dead_of (i := 4) hz
      refine aW ?_
      refine Exists.intro 4 (And.intro rfl (And.intro (by decide) ?_))
      refine aW ?_
      refine Lq.nx _ (Le.trans (Le.lev (t := 8) rfl (Lev.of (AVle.trans AVle.tt (AVle.of_eq (congrArg AV.b (gn_dead hd0).symm))))) (Le.mk ?_ ?_ rfl rfl)) ⟨5, by decide, rfl⟩ ?_
      · exact ⟨rfl, rfl, rfl, rfl, rfl, rfl, rfl, trivial⟩
      · exact ⟨rfl, rfl, rfl, rfl, by rw [shK_dead hd0, lf_dead hd0]; rfl, rfl, rfl, by rw [tdK_step (i := 4) ⟨⟨#[]⟩, 17⟩ (if_neg (by rw [hd0]; decide))]; exact td_e c L 4 (by decide) 17, trivial⟩
      · show (5 - ((5 : Nat) : Int)).toNat < (5 - ((4 : Nat) : Int)).toNat
        decide
    have hv := live_of (i := 4) hz
    have hwr := lf_le (i := 4) hL1 hL2
    have hg := gn_live hv
    refine aW ?_
    refine brk.mk (fun hp => ?_) (fun hp => ?_)
    · refine aW ?_
      have hl := lf_dec hv (of_decide_eq_true hp)
      have hw : IntKind.i64.wrap (lf L 4 - 1) = lf L 5 := by rw [wrap_int (by have := of_decide_eq_true hp; omega) (by omega)]; exact hl.symm
      refine Exists.intro 4 (And.intro rfl (And.intro (by decide) ?_))
      refine XCall.bodyw is79 rfl ?_
      unfold m79
      refine aW ?_
      refine XCall.givv (get12 (S 4) name (hS 4 (by decide))) ?_
      refine And.intro rfl (And.intro (AVles.cons (AVle.of_eq (congrArg sAV (shK_at (c := c) (S := S) (L := L) (i := 4)))) (AVles.refl _)) ?_)
      refine aN ?_
      refine aW ?_
      refine Rq.rt ?_
      refine Exists.intro 4 (And.intro rfl (And.intro (by decide) ?_))
      refine Exists.intro 4 (And.intro rfl (And.intro (by decide) ?_))
      refine aW ?_
      refine Lq.nx _ (Le.mk ?_ ?_ rfl rfl) ⟨5, by decide, rfl⟩ ?_
      · exact ⟨rfl, rfl, rfl, rfl, rfl, congrArg AV.b (hg.1.trans hg.2.symm), rfl, trivial⟩
      · exact ⟨rfl, rfl, rfl, rfl, by rw [shK_live hv, hc1 4]; exact st_setD (shK c S L 4) _ _ 4 (by decide) (get (S 4) name).1 hw rfl, rfl, rfl, by rw [tdK_step (i := 4) (c 4).2 (if_pos hv), hc2 4]; exact td_set (tdK c L 4) 4 (by decide) ⟨(get (S 4) name).2.1, (get (S 4) name).2.2⟩, trivial⟩
      · show (5 - ((5 : Nat) : Int)).toNat < (5 - ((4 : Nat) : Int)).toNat
        decide
    · refine aW ?_
      have hl := lf_neg hv (of_decide_eq_false hp)
      refine Exists.intro 4 (And.intro rfl (And.intro (by decide) ?_))
      refine XCall.bodyw is79 rfl ?_
      unfold m79
      refine aW ?_
      refine XCall.givv (get12 (S 4) name (hS 4 (by decide))) ?_
      refine And.intro rfl (And.intro (AVles.cons (AVle.of_eq (congrArg sAV (shK_at (c := c) (S := S) (L := L) (i := 4)))) (AVles.refl _)) ?_)
      refine aN ?_
      refine aW ?_
      refine Rq.rt ?_
      refine Exists.intro 4 (And.intro rfl (And.intro (by decide) ?_))
      refine Exists.intro 4 (And.intro rfl (And.intro (by decide) ?_))
      refine aW ?_
      refine Lq.nx _ (Le.mk ?_ ?_ rfl rfl) ⟨5, by decide, rfl⟩ ?_
      · exact ⟨rfl, rfl, rfl, rfl, rfl, congrArg AV.b (hg.1.trans hg.2.symm), rfl, trivial⟩
      · exact ⟨rfl, rfl, rfl, rfl, by rw [shK_live hv, hc1 4]; exact st_setDN (shK c S L 4) _ _ 4 (by decide) (get (S 4) name).1 hl.symm, rfl, rfl, by rw [tdK_step (i := 4) (c 4).2 (if_pos hv), hc2 4]; exact td_set (tdK c L 4) 4 (by decide) ⟨(get (S 4) name).2.1, (get (S 4) name).2.2⟩, trivial⟩
      · show (5 - ((5 : Nat) : Int)).toNat < (5 - ((4 : Nat) : Int)).toNat
        decide
  · refine aW ?_
    refine brk.mk (fun hc => ?_) (fun hc => ?_)
    · exact absurd hc (by decide)
    refine aW ?_
    refine And.intro rfl ?_
    refine aN ?_
    refine aW ?_
    refine Rq.rt ?_
    refine aN ?_
    refine aW ?_
    refine Rq.rt ?_
    refine And.intro rfl ?_
    exact AVle.refl _
theorem get40 (S : Nat → Sh) (L : Int) (name : ByteArray) (hS : ∀ i, i < 5 → Small (S i)) (hL1 : -9223372036854775808 ≤ L) (hL2 : L < 9223372036854775808) :
    Pure Tryz.prog 40 [stA S L, .s name] (fun r => r = gt3 (getC S name) S L) := get_core S L name _ rfl hS hL1 hL2
end Go.Proofs.T

namespace Go.Proofs.T
open Go Go.Hb

theorem textsG_le (M : Nat) : ∀ (f : Nat) (c : ByteArray) (acc : List ByteArray), c.size ≤ M → (∀ s ∈ acc, s.size ≤ M) → ∀ s ∈ (textsG f c acc).1, s.size ≤ M
  | 0, c, acc, hc, ha => ha
  | f + 1, c, acc, hc, ha => by
    unfold textsG
    split
    · exact ha
    · split
      · intro s hs; cases hs
      · split
        · intro s hs; cases hs
        · refine textsG_le M f _ _ ?_ fun s hs => ?_
          · rw [ByteArray.size_extract]; omega
          · rcases List.mem_append.1 hs with h | h
            · exact ha s h
            · simp only [List.mem_cons, List.not_mem_nil, or_false] at h
              subst h
              rw [ByteArray.size_extract]
              omega
def nth (l : List ByteArray) (k : Nat) : ByteArray := l.getD k ⟨#[]⟩
def no1 (name : ByteArray) (i : Nat) (q : List ByteArray × Nat) : Prop := q.2 ≠ 0 ∨ q.1.length ≠ 7 ∨ nth q.1 0 ≠ hibs ∨ nth q.1 1 ≠ name ∨ nth q.1 3 ≠ decB ((i + 1 : Nat) : Int)
def no2 (l : List ByteArray) : Prop := (intF (nth l 2)).2 = false ∨ (intF (nth l 2)).1 < 0 ∨ 65536 < (intF (nth l 2)).1 ∨ (nth l 4).size ≠ 32 ∨ ((nth l 6).size : Int) ≠ ((intF (nth l 2)).1 + 2) / 3 ∨ nth l 5 ≠ rawB (sumF (nth l 6))
instance (name : ByteArray) (i : Nat) (q : List ByteArray × Nat) : Decidable (no1 name i q) := by unfold no1; infer_instance
instance (l : List ByteArray) : Decidable (no2 l) := by unfold no2; infer_instance
structure Pt where
  n : Nat
  sum : ByteArray
  i : Nat
  d : ByteArray
def ptC (p : Pt) : List AV := [.i .i64 ((p.n : Nat) : Int), .s p.sum, .i .i64 ((p.i : Nat) : Int), .s p.d]
def fitsQ (name : ByteArray) (i : Nat) (q : List ByteArray × Nat) : Option Pt := if no1 name i q then none else if no2 q.1 then none else some ⟨(intF (nth q.1 2)).1.toNat, nth q.1 4, i + 1, nth q.1 6⟩
def fitsF (name : ByteArray) (i : Nat) (b : ByteArray) : Option Pt := fitsQ name i (textsF b)
def pt0 : Pt := ⟨0, ⟨#[]⟩, 0, ⟨#[]⟩⟩
def ftA (o : Option Pt) : AV := .tup [.agg (ptC (o.getD pt0)), .b o.isSome]
theorem fitsQ_1 {name : ByteArray} {i : Nat} {q : List ByteArray × Nat} (h : no1 name i q) : fitsQ name i q = none := if_pos h
theorem sn_t {a b : ByteArray} (h : (!(a.toList == b.toList)) = true) : a ≠ b := fun e => by rw [e] at h; simp at h
theorem sn_f {a b : ByteArray} (h : (!(a.toList == b.toList)) = false) : a = b := by
  simp only [Bool.not_eq_false'] at h
  rw [beq_iff] at h
  exact of_decide_eq_true h
set_option maxHeartbeats 1000000 in
theorem fits_core (name b : ByteArray) (i : Nat) (hi : i < 5) (q : List ByteArray × Nat) (T5 : ByteArray) (hq : ∀ s ∈ q.1, s.size ≤ 1099511627776)
    (h1 : Pure Tryz.prog 81 [.s b] (fun r => r = tx2 q)) : Pure Tryz.prog 41 [.s name, .i .i64 (i : Int), .s b] (fun r => r = ftA (fitsQ name i q)) := by
  obtain ⟨l, e⟩ := q
  have w0 : IntKind.i64.wrap ((i : Int) + 1) = ((i + 1 : Nat) : Int) := by rw [wrap_int (by omega) (by omega)]; omega
  have none : ∀ {o : Option Pt}, o = none → AVle (.tup [.agg [.i .i64 0, .s ⟨#[]⟩, .i .i64 0, .s ⟨#[]⟩], .ff]) (ftA o) := fun h => by
    subst h
    exact AVle.tup (AVles.cons (AVle.refl _) (AVles.cons AVle.ff AVles.nil))
  have sz : ∀ k, (nth l k).size ≤ 1099511627776 := fun k => by
    unfold nth
    rw [List.getD_eq_getElem?_getD]
    cases hk : l[k]? with
    | none => exact Nat.zero_le _
    | some s => exact hq s (List.mem_of_getElem? hk)
  refine Pure.weak (Post := fun v => AVle v (ftA (fitsQ name i (l, e)))) (Pure.of (XCall.bodyw is41 rfl ?_)) fun r h => ⟨_, rfl, h⟩
  unfold m41
  refine aW ?_
  refine XCall.givv h1 ?_
  refine And.intro rfl (And.intro (AVles.refl _) ?_)
  refine aW ?_
  refine brk.mk (fun he => ?_) (fun he => ?_)
  · have he1 : e ≠ 0 := fun h => by rw [h] at he; simp at he
    refine aW ?_
    change awpW Tryz.prog (MC.seq _ _) _ _
    refine aW ?_
    refine Rq.rt ?_
    refine And.intro rfl ?_
    exact none (fitsQ_1 (.inl he1))
  have he0 : e = 0 := by have := (by simpa using he : (e : Int) = 0); omega
  refine brk.mk (fun hl => ?_) (fun hl => ?_)
  · have hl1 : l.length ≠ 7 := fun h => by rw [h] at hl; simp at hl
    refine aW ?_
    change awpW Tryz.prog (MC.seq _ _) _ _
    refine aW ?_
    refine Rq.rt ?_
    refine And.intro rfl ?_
    exact none (fitsQ_1 (.inr (.inl hl1)))
  have hl0 : l.length = 7 := by have := (by simpa using hl : (l.length : Int) = 7); omega
  refine Exists.intro 0 (And.intro rfl (And.intro (by omega) ?_))
  refine brk.mk (fun h0 => ?_) (fun h0 => ?_)
  · have h0t : nth l 0 ≠ hibs := sn_t h0
    refine aW ?_
    change awpW Tryz.prog (MC.seq _ _) _ _
    refine aW ?_
    refine Rq.rt ?_
    refine And.intro rfl ?_
    exact none (fitsQ_1 (.inr (.inr (.inl h0t))))
  have h0f : nth l 0 = hibs := sn_f h0
  refine Exists.intro 1 (And.intro rfl (And.intro (by omega) ?_))
  refine brk.mk (fun hn => ?_) (fun hn => ?_)
  · have hnt : nth l 1 ≠ name := sn_t hn
    refine aW ?_
    change awpW Tryz.prog (MC.seq _ _) _ _
    refine aW ?_
    refine Rq.rt ?_
    refine And.intro rfl ?_
    exact none (fitsQ_1 (.inr (.inr (.inr (.inl hnt)))))
  have hnf : nth l 1 = name := sn_f hn
  refine Exists.intro 3 (And.intro rfl (And.intro (by omega) ?_))
  refine XCall.lenv (dec37 ((i + 1 : Nat) : Int) (by omega) (by omega)) rfl ?_
  refine And.intro rfl (And.intro (AVles.cons (AVle.of_eq (congrArg (AV.i .i64) w0)) AVles.nil) ?_)
  refine aN ?_
  refine aW ?_
  refine brk.mk (fun h3 => ?_) (fun h3 => ?_)
  · have h3t : nth l 3 ≠ decB ((i + 1 : Nat) : Int) := sn_t h3
    refine aW ?_
    refine Rq.rt ?_
    refine And.intro rfl ?_
    exact none (fitsQ_1 (.inr (.inr (.inr (.inr h3t)))))
  have h3f : nth l 3 = decB ((i + 1 : Nat) : Int) := sn_f h3
  have hno1 : ¬ no1 name i (l, e) := by
    rintro (h | h | h | h | h)
    · exact h he0
    · exact h hl0
    · exact h h0f
    · exact h hnf
    · exact h h3f
  have i2 := int82 (nth l 2) (by have := sz 2; omega)
  have hq2 : fitsQ name i (l, e) = if no2 l then Option.none else some ⟨(intF (nth l 2)).1.toNat, nth l 4, i + 1, nth l 6⟩ := if_neg hno1
  generalize hfq : fitsQ name i (l, e) = Q at *
  refine aW ?_
  refine Exists.intro 2 (And.intro rfl (And.intro (by omega) ?_))
  refine XCall.lenv i2 rfl ?_
  refine And.intro rfl (And.intro (AVles.refl _) ?_)
  have hr2 : no2 l → Q = Option.none := fun h => by rw [hq2, if_pos h]
  have no2u : no2 l ↔ ((intF (nth l 2)).2 = false ∨ (intF (nth l 2)).1 < 0 ∨ 65536 < (intF (nth l 2)).1 ∨ (nth l 4).size ≠ 32 ∨ ((nth l 6).size : Int) ≠ ((intF (nth l 2)).1 + 2) / 3 ∨ nth l 5 ≠ rawB (sumF (nth l 6))) := Iff.rfl
  generalize intF (nth l 2) = q2 at *
  obtain ⟨n, ok⟩ := q2
  simp only at no2u hq2
  refine aN ?_
  refine aW ?_
  refine brk.mk (fun ho => ?_) (fun ho => ?_)
  · have hot : ok = false := by simpa using ho
    refine aW ?_
    change awpW Tryz.prog (MC.seq _ _) _ _
    refine aW ?_
    refine Rq.rt ?_
    refine And.intro rfl ?_
    exact none (hr2 (no2u.2 (.inl hot)))
  have hof : ok = true := by simpa using ho
  refine brk.mk (fun hm => ?_) (fun hm => ?_)
  · have hmt : n < 0 := of_decide_eq_true hm
    refine aW ?_
    change awpW Tryz.prog (MC.seq _ _) _ _
    refine aW ?_
    refine Rq.rt ?_
    refine And.intro rfl ?_
    exact none (hr2 (no2u.2 (.inr (.inl hmt))))
  have hmf : ¬ n < 0 := of_decide_eq_false hm
  refine brk.mk (fun hx => ?_) (fun hx => ?_)
  · have hxt : 65536 < n := of_decide_eq_true hx
    refine aW ?_
    change awpW Tryz.prog (MC.seq _ _) _ _
    refine aW ?_
    refine Rq.rt ?_
    refine And.intro rfl ?_
    exact none (hr2 (no2u.2 (.inr (.inr (.inl hxt)))))
  have hxf : ¬ 65536 < n := of_decide_eq_false hx
  refine Exists.intro 4 (And.intro rfl (And.intro (by omega) ?_))
  refine brk.mk (fun h4 => ?_) (fun h4 => ?_)
  · have h4t : (nth l 4).size ≠ 32 := fun h => by have h4b : ((((nth l 4).size : Nat) : Int) != 32) = true := h4; rw [h] at h4b; simp at h4b
    refine aW ?_
    change awpW Tryz.prog (MC.seq _ _) _ _
    refine aW ?_
    refine Rq.rt ?_
    refine And.intro rfl ?_
    exact none (hr2 (no2u.2 (.inr (.inr (.inr (.inl h4t))))))
  have h4f : (nth l 4).size = 32 := by have := (by simpa using h4 : (((l.getD 4 ⟨#[]⟩).size : Nat) : Int) = 32); unfold nth; omega
  refine Exists.intro 6 (And.intro rfl (And.intro (by omega) ?_))
  have wq : IntKind.i64.wrap ((IntKind.i64.wrap (n + 2)).tdiv 3) = (n + 2) / 3 := by rw [wrap_int (n := n + 2) (by omega) (by omega), Int.tdiv_eq_ediv_of_nonneg (by omega), wrap_int (by omega) (by omega)]
  refine brk.mk (fun h6 => ?_) (fun h6 => ?_)
  · have h6t : ((nth l 6).size : Int) ≠ (n + 2) / 3 := fun h => by rw [wq] at h6; have h6b : ((((nth l 6).size : Nat) : Int) != (n + 2) / 3) = true := h6; rw [h] at h6b; simp at h6b
    refine aW ?_
    change awpW Tryz.prog (MC.seq _ _) _ _
    refine aW ?_
    refine Rq.rt ?_
    refine And.intro rfl ?_
    exact none (hr2 (no2u.2 (.inr (.inr (.inr (.inr (.inl h6t)))))))
  have h6f : ((nth l 6).size : Int) = (n + 2) / 3 := by rw [wq] at h6; have h6b : ((((nth l 6).size : Nat) : Int) != (n + 2) / 3) = false := h6; simpa using h6b
  refine Exists.intro 5 (And.intro rfl (And.intro (by omega) ?_))
  refine Exists.intro 6 (And.intro rfl (And.intro (by omega) ?_))
  refine aN ?_
  refine XCall.lenv (sum39 (nth l 6) (sz 6)) rfl ?_
  refine And.intro rfl (And.intro (AVles.cons (one_of (nth l 6)) AVles.nil) ?_)
  refine aN ?_
  refine XCall.lenv (raw38 (sumF (nth l 6))) rfl ?_
  refine And.intro rfl (And.intro (AVles.refl _) ?_)
  refine aN ?_
  refine aW ?_
  refine brk.mk (fun h5 => ?_) (fun h5 => ?_)
  · have h5t : nth l 5 ≠ rawB (sumF (nth l 6)) := sn_t h5
    refine aW ?_
    refine Rq.rt ?_
    refine And.intro rfl ?_
    exact none (hr2 (no2u.2 (.inr (.inr (.inr (.inr (.inr h5t)))))))
  have h5f : nth l 5 = rawB (sumF (nth l 6)) := sn_f h5
  have hno2 : ¬ no2 l := fun h => by
    rcases no2u.1 h with h | h | h | h | h | h
    · rw [hof] at h; cases h
    · exact hmf h
    · exact hxf h
    · exact h h4f
    · exact h h6f
    · exact h h5f
  rw [if_neg hno2] at hq2
  refine aW ?_
  refine Exists.intro 4 (And.intro rfl (And.intro (by omega) ?_))
  refine Exists.intro 6 (And.intro rfl (And.intro (by omega) ?_))
  refine aW ?_
  refine Rq.rt ?_
  refine And.intro rfl ?_
  rw [hq2]
  have hnn : ((n.toNat : Nat) : Int) = n := by omega
  exact AVle.tup (AVles.cons (AVle.agg (AVles.cons (AVle.of_eq (congrArg (AV.i .i64) hnn.symm)) (AVles.cons (AVle.refl _) (AVles.cons (AVle.of_eq (congrArg (AV.i .i64) w0)) (AVles.cons (AVle.refl _) AVles.nil))))) (AVles.cons AVle.tt AVles.nil))
theorem fits41 (name b : ByteArray) (i : Nat) (hi : i < 5) (hb : b.size ≤ 1099511627776) : Pure Tryz.prog 41 [.s name, .i .i64 (i : Int), .s b] (fun r => r = ftA (fitsF name i b)) :=
  fits_core name b i hi (textsF b) ⟨#[]⟩ (textsG_le _ _ _ _ hb fun s hs => by cases hs) (texts81 b hb)
end Go.Proofs.T

namespace Go.Proofs.T
open Go Go.Hb

/-- A part that may be. -/
structure PtOk (p : Pt) : Prop where
  n : p.n ≤ 65536
  d : p.d.size = rowsN p.n
  i0 : 1 ≤ p.i
  i5 : p.i ≤ 5
def joinP (a b c : Pt) : ByteArray × Bool := if a.n ≠ b.n ∨ a.n ≠ c.n ∨ a.sum ≠ b.sum ∨ a.sum ≠ c.sum then (⟨#[]⟩, false) else
  (joinF a.i b.i c.i a.d b.d c.d a.n, decide (rawB (sumF (joinF a.i b.i c.i a.d b.d c.d a.n)) = a.sum))
def jn2 (q : ByteArray × Bool) : AV := .tup [.s q.1, .b q.2]
theorem parts_of (a b c : Pt) : AVle (.fs 3 2 (listCell 2 [.i .i64 ((a.i : Nat) : Int), .s a.d, .i .i64 ((b.i : Nat) : Int), .s b.d, .i .i64 ((c.i : Nat) : Int), .s c.d])) (.fs 3 2 (cJ (sel3 a.i b.i c.i) (sel3 a.d b.d c.d))) := AVle.fs fun i j hi hj => by
  obtain rfl | rfl | rfl : i = 0 ∨ i = 1 ∨ i = 2 := by omega
  all_goals
    obtain rfl | rfl : j = 0 ∨ j = 1 := by omega
    all_goals rfl
theorem se_t {a b : ByteArray} (h : (a.toList == b.toList) = true) : a = b := by rw [beq_iff] at h; exact of_decide_eq_true h
theorem se_f {a b : ByteArray} (h : (a.toList == b.toList) = false) : a ≠ b := by rw [beq_iff] at h; exact of_decide_eq_false h
set_option maxHeartbeats 1000000 in
theorem join42 (a b c : Pt) (ha : PtOk a) (hb : PtOk b) (hc : PtOk c) (h1 : a.i < b.i) (h2 : b.i < c.i) : Pure Tryz.prog 42 [.agg (ptC a), .agg (ptC b), .agg (ptC c)] (fun r => r = jn2 (joinP a b c)) := by
  refine Pure.weak (Post := fun v => AVle v (jn2 (joinP a b c))) (Pure.of (XCall.bodyw is42 rfl ?_)) fun r h => ⟨_, rfl, h⟩
  have no : (a.n ≠ b.n ∨ a.n ≠ c.n ∨ a.sum ≠ b.sum ∨ a.sum ≠ c.sum) → AVle (.tup [.s ⟨#[]⟩, .ff]) (jn2 (joinP a b c)) := fun h => by
    unfold joinP
    rw [if_pos h]
    exact AVle.tup (AVles.cons (AVle.refl _) (AVles.cons AVle.ff AVles.nil))
  unfold m42
  refine aW ?_
  refine brk.mk (fun hp => ?_) (fun hp => ?_)
  · have hp1 : a.n ≠ b.n := fun h => by rw [h] at hp; simp at hp
    refine aW ?_
    change awpW Tryz.prog (MC.seq _ _) _ _
    refine aW ?_
    refine Rq.rt ?_
    refine And.intro rfl ?_
    exact no (.inl hp1)
  have hp0 : a.n = b.n := by have := (by simpa using hp : (a.n : Int) = (b.n : Int)); omega
  refine brk.mk (fun hq => ?_) (fun hq => ?_)
  · have hq1 : a.n ≠ c.n := fun h => by rw [h] at hq; simp at hq
    refine aW ?_
    change awpW Tryz.prog (MC.seq _ _) _ _
    refine aW ?_
    refine Rq.rt ?_
    refine And.intro rfl ?_
    exact no (.inr (.inl hq1))
  have hq0 : a.n = c.n := by have := (by simpa using hq : (a.n : Int) = (c.n : Int)); omega
  refine brk.mk (fun hr => ?_) (fun hr => ?_)
  · have hr1 : a.sum ≠ b.sum := sn_t hr
    refine aW ?_
    change awpW Tryz.prog (MC.seq _ _) _ _
    refine aW ?_
    refine Rq.rt ?_
    refine And.intro rfl ?_
    exact no (.inr (.inr (.inl hr1)))
  have hr0 : a.sum = b.sum := sn_f hr
  refine aW ?_
  refine brk.mk (fun hs => ?_) (fun hs => ?_)
  · have hs1 : a.sum ≠ c.sum := sn_t hs
    refine aW ?_
    refine Rq.rt ?_
    refine And.intro rfl ?_
    exact no (.inr (.inr (.inr hs1)))
  have hs0 : a.sum = c.sum := sn_f hs
  have hyes : joinP a b c = (joinF a.i b.i c.i a.d b.d c.d a.n, decide (rawB (sumF (joinF a.i b.i c.i a.d b.d c.d a.n)) = a.sum)) := by
    unfold joinP
    refine if_neg fun h => ?_
    rcases h with h | h | h | h
    · exact h hp0
    · exact h hq0
    · exact h hr0
    · exact h hs0
  have hj := join83 a.i b.i c.i a.n a.d b.d c.d ha.n ha.i0 h1 h2 hc.i5 ha.d (by rw [hb.d, hp0]) (by rw [hc.d, hq0])
  have hJs : (joinF a.i b.i c.i a.d b.d c.d a.n).size ≤ 1099511627776 := by
    have := ha.n
    have e : (joinF a.i b.i c.i a.d b.d c.d a.n).size = a.n := ofN_size _ _
    omega
  rw [hyes]
  generalize joinF a.i b.i c.i a.d b.d c.d a.n = J at *
  refine aW ?_
  refine XCall.lenv hj rfl ?_
  refine And.intro rfl (And.intro (AVles.cons (parts_of a b c) (AVles.refl _)) ?_)
  refine aN ?_
  refine aW ?_
  refine brk.mk (fun hz => ?_) (fun hz => ?_)
  rotate_left
  · exact absurd hz (by decide)
  refine And.intro rfl ?_
  refine aN ?_
  refine XCall.lenv (sum39 J hJs) rfl ?_
  refine And.intro rfl (And.intro (AVles.cons (one_of J) AVles.nil) ?_)
  refine And.intro rfl ?_
  refine aN ?_
  refine XCall.lenv (raw38 (sumF J)) rfl ?_
  refine And.intro rfl (And.intro (AVles.refl _) ?_)
  refine And.intro rfl ?_
  refine aN ?_
  refine aW ?_
  refine Rq.rt ?_
  refine And.intro rfl ?_
  exact AVle.tup (AVles.cons (AVle.refl _) (AVles.cons (AVle.of_eq (congrArg AV.b (beq_iff _ _))) AVles.nil))
end Go.Proofs.T

namespace Go.Proofs.T
open Go Go.Hb

def cntF (T : Nat → Td) (i : Nat) : Nat → Nat
  | 0 => 0
  | k + 1 => cntF T i k + (if (T i).e = 0 ∧ (T k).e = 0 ∧ (T i).d = (T k).d then 1 else 0)
def voteK (T : Nat → Td) (q : ByteArray × Int) : Nat → ByteArray × Int
  | 0 => q
  | k + 1 => if 3 ≤ cntF T (4 - k) 5 then ((T (4 - k)).d, 0) else voteK T q k
theorem cntF_le (T : Nat → Td) (i : Nat) : ∀ k, cntF T i k ≤ k
  | 0 => Nat.le_refl _
  | k + 1 => by
    have := cntF_le T i k
    unfold cntF
    split <;> omega
def st3 (S : Nat → Sh) (L : Int) (q : ByteArray × Int) : AV := .tup [stA S L, .s q.1, .i .i64 q.2]
def tellF (T : Nat → Td) (L : Int) : ByteArray × Int := voteK T (⟨#[]⟩, lostF T (gn L 5)) 5
set_option maxHeartbeats 1000000 in
theorem vote_core (S : Nat → Sh) (L : Int) (name : ByteArray) (S' : Nat → Sh) (L' : Int) (T : Nat → Td) (g : Bool) (N : Nat → Nat → Nat) (V : Nat → ByteArray × Int) (lost : Int) (R : ByteArray × Int)
    (hk0 : lookF name 0 = 0) (hget : Pure Tryz.prog 40 [stA S L, .s name] (fun r => r = .tup [stA S' L', .agg (t5 T), .b g]))
    (hlost : Pure Tryz.prog 43 [.agg (t5 T), .b g] (fun r => r = .i .i64 lost))
    (hN0 : ∀ i, N i 0 = 0) (hN1 : ∀ i k, N i (k + 1) = N i k + (if (T i).e = 0 ∧ (T k).e = 0 ∧ (T i).d = (T k).d then 1 else 0)) (hNl : ∀ i k, N i k ≤ k)
    (hV0 : V 0 = (⟨#[]⟩, lost)) (hV1 : ∀ k, V (k + 1) = if 3 ≤ N (4 - k) 5 then ((T (4 - k)).d, 0) else V k) (hR : V 5 = R) :
    Pure Tryz.prog 18 [stA S L, .s name] (fun r => r = st3 S' L' R) := by
  refine Pure.weak (Post := fun v => AVle v (st3 S' L' R)) (Pure.of (XCall.bodyw is18 rfl ?_)) fun r h => ⟨_, rfl, h⟩
  unfold m18
  refine aW ?_
  refine XCall.lenv (look32 name 0) rfl ?_
  refine And.intro rfl (And.intro (AVles.refl _) ?_)
  rw [hk0]
  refine aW ?_
  refine brk.mk (fun hk => ?_) (fun hk => ?_)
  · exact absurd hk (by decide)
  refine aW ?_
  refine XCall.givv hget ?_
  refine And.intro rfl (And.intro (AVles.refl _) ?_)
  refine aN ?_
  refine aW ?_
  refine lpW.mk (fun σ => ∃ i : Nat, i ≤ 5 ∧ V (5 - i) = R ∧ σ = ⟨[(2, .p 0 0), (4, .p 1 0), (8, .p 2 0), (9, .b g), (28, .agg (t5 T)), (29, .i .i64 (i : Int))], [(0, .lit (st11 S' L')), (1, .lit z11), (2, .lit (t5 T))], 3⟩) (fun σ => (5 - num 29 σ).toNat) ?_ ?_
  · refine ⟨_, Le.mk ?_ ?_ rfl rfl, 0, by decide, hR, rfl⟩
    · exact ⟨rfl, rfl, rfl, rfl, rfl, rfl, trivial⟩
    · exact ⟨rfl, rfl, rfl, trivial⟩
  rintro σ' ⟨i, hi, hV, rfl⟩
  refine aW ?_
  refine brk.mk (fun hc => ?_) (fun hc => ?_)
  · have hi5 : i < 5 := by have := of_decide_eq_true hc; omega
    have w0 : IntKind.i64.wrap ((i : Int) + 1) = ((i + 1 : Nat) : Int) := by rw [wrap_int (by omega) (by omega)]; omega
    have hs := hV1 (5 - (i + 1))
    rw [show 5 - (i + 1) + 1 = 5 - i by omega, show 4 - (5 - (i + 1)) = i by omega, hV] at hs
    refine aW ?_
    refine Exists.intro i (And.intro rfl (And.intro hi5 (Exists.intro (tC (T i)) (And.intro (t5_at T i hi5) ?_))))
    refine aW ?_
    refine lpW.mk (fun σ => ∃ k : Nat, k ≤ 5 ∧ σ = ⟨[(2, .p 0 0), (4, .p 1 0), (8, .p 2 0), (9, .b g), (28, .agg (t5 T)), (29, .i .i64 (i : Int)), (11, .p 3 0), (12, .i .i64 ((N i k : Nat) : Int)), (32, .agg (t5 T)), (33, .i .i64 (k : Int))], [(0, .lit (st11 S' L')), (1, .lit z11), (2, .lit (t5 T)), (3, .lit (tC (T i)))], 4⟩) (fun σ => (5 - num 33 σ).toNat) ?_ ?_
    · refine ⟨_, Le.mk ?_ ?_ rfl rfl, 0, by decide, rfl⟩
      · exact ⟨rfl, rfl, rfl, rfl, rfl, rfl, rfl, by rw [hN0]; rfl, rfl, rfl, trivial⟩
      · exact ⟨rfl, rfl, rfl, rfl, trivial⟩
    rintro σ' ⟨k, hk, rfl⟩
    refine aW ?_
    refine brk.mk (fun hc => ?_) (fun hc => ?_)
    · have hk5 : k < 5 := by have := of_decide_eq_true hc; omega
      have x0 : IntKind.i64.wrap ((k : Int) + 1) = ((k + 1 : Nat) : Int) := by rw [wrap_int (by omega) (by omega)]; omega
      have hNk := hNl i k
      have stay : ¬ ((T i).e = 0 ∧ (T k).e = 0 ∧ (T i).d = (T k).d) → N i k = N i (k + 1) := fun h => by rw [hN1, if_neg h]; rfl
      refine aW ?_
      refine Exists.intro k (And.intro rfl (And.intro hk5 (Exists.intro (tC (T k)) (And.intro (t5_at T k hk5) ?_))))
      refine aW ?_
      refine brk.mk (fun he => ?_) (fun he => ?_)
      · have he' : (T i).e = 0 := eq_of_beq he
        refine aW ?_
        refine brk.mk (fun hf => ?_) (fun hf => ?_)
        · have hf' : (T k).e = 0 := eq_of_beq hf
          refine aW ?_
          refine brk.mk (fun hd => ?_) (fun hd => ?_)
          · have hd' : (T i).d = (T k).d := by rw [beq_iff] at hd; exact of_decide_eq_true hd
            have wn : IntKind.i64.wrap (((N i k : Nat) : Int) + 1) = ((N i (k + 1) : Nat) : Int) := by rw [hN1, if_pos ⟨he', hf', hd'⟩, wrap_int (by omega) (by omega)]; omega
            refine aW ?_
            refine Lq.nx _ (Le.mk ?_ ?_ rfl rfl) ⟨k + 1, hk5, rfl⟩ ?_
            · exact ⟨rfl, rfl, rfl, rfl, rfl, rfl, rfl, congrArg (AV.i .i64) wn, rfl, congrArg (AV.i .i64) x0, trivial⟩
            · exact ⟨rfl, rfl, rfl, rfl, trivial⟩
            · show (5 - ((k + 1 : Nat) : Int)).toNat < (5 - (k : Int)).toNat
              omega
          · have hd' : ¬ (T i).d = (T k).d := by rw [beq_iff] at hd; exact of_decide_eq_false hd
            refine aW ?_
            refine Lq.nx _ (Le.mk ?_ ?_ rfl rfl) ⟨k + 1, hk5, rfl⟩ ?_
            · exact ⟨rfl, rfl, rfl, rfl, rfl, rfl, rfl, congrArg (fun n : Nat => AV.i .i64 (n : Int)) (stay fun h => hd' h.2.2), rfl, congrArg (AV.i .i64) x0, trivial⟩
            · exact ⟨rfl, rfl, rfl, rfl, trivial⟩
            · show (5 - ((k + 1 : Nat) : Int)).toNat < (5 - (k : Int)).toNat
              omega
        · have hf' : ¬ (T k).e = 0 := fun e => by rw [e] at hf; simp at hf
          refine aW ?_
          refine Lq.nx _ (Le.mk ?_ ?_ rfl rfl) ⟨k + 1, hk5, rfl⟩ ?_
          · exact ⟨rfl, rfl, rfl, rfl, rfl, rfl, rfl, congrArg (fun n : Nat => AV.i .i64 (n : Int)) (stay fun h => hf' h.2.1), rfl, congrArg (AV.i .i64) x0, trivial⟩
          · exact ⟨rfl, rfl, rfl, rfl, trivial⟩
          · show (5 - ((k + 1 : Nat) : Int)).toNat < (5 - (k : Int)).toNat
            omega
      · have he' : ¬ (T i).e = 0 := fun e => by rw [e] at he; simp at he
        refine aW ?_
        refine Lq.nx _ (Le.mk ?_ ?_ rfl rfl) ⟨k + 1, hk5, rfl⟩ ?_
        · exact ⟨rfl, rfl, rfl, rfl, rfl, rfl, rfl, congrArg (fun n : Nat => AV.i .i64 (n : Int)) (stay fun h => he' h.1), rfl, congrArg (AV.i .i64) x0, trivial⟩
        · exact ⟨rfl, rfl, rfl, rfl, trivial⟩
        · show (5 - ((k + 1 : Nat) : Int)).toNat < (5 - (k : Int)).toNat
          omega
    have hk5 : k = 5 := by have := of_decide_eq_false hc; omega
    subst hk5
    refine aW ?_
    refine brk.mk (fun hn => ?_) (fun hn => ?_)
    · have hn' : 3 ≤ N i 5 := by have := of_decide_eq_true hn; omega
      rw [if_pos hn'] at hs
      refine aW ?_
      refine And.intro rfl ?_
      refine aN ?_
      refine aW ?_
      refine Rq.rt ?_
      refine And.intro rfl ?_
      rw [hs]
      exact AVle.refl _
    · have hn' : ¬ 3 ≤ N i 5 := by have := of_decide_eq_false hn; omega
      rw [if_neg hn'] at hs
      refine aW ?_
      refine Lq.nx _ (Le.mk ?_ ?_ rfl rfl) ⟨i + 1, hi5, hs.symm, rfl⟩ ?_
      · exact ⟨rfl, rfl, rfl, rfl, rfl, congrArg (AV.i .i64) w0, trivial⟩
      · exact ⟨rfl, rfl, rfl, trivial⟩
      · show (5 - ((i + 1 : Nat) : Int)).toNat < (5 - (i : Int)).toNat
        omega
  have hi5 : i = 5 := by have := of_decide_eq_false hc; omega
  subst hi5
  refine aW ?_
  refine XCall.lenv hlost rfl ?_
  refine And.intro rfl (And.intro (AVles.refl _) ?_)
  refine And.intro rfl ?_
  refine aN ?_
  refine aW ?_
  refine Rq.rt ?_
  refine And.intro rfl ?_
  rw [Nat.sub_self, hV0] at hV
  rw [← hV]
  exact AVle.refl _
def voteF (S : Nat → Sh) (L : Int) (name : ByteArray) : ByteArray × Int := tellF (tdK (getC S name) L 5) L
theorem vote18 (S : Nat → Sh) (L : Int) (name : ByteArray) (hk0 : lookF name 0 = 0) (hS : ∀ i, i < 5 → Small (S i)) (hL1 : -9223372036854775808 ≤ L) (hL2 : L < 9223372036854775808) :
    Pure Tryz.prog 18 [stA S L, .s name] (fun r => r = st3 (shK (getC S name) S L 5) (lf L 5) (voteF S L name)) :=
  vote_core S L name _ _ (tdK (getC S name) L 5) (gn L 5) (cntF (tdK (getC S name) L 5)) (voteK (tdK (getC S name) L 5) (⟨#[]⟩, lostF (tdK (getC S name) L 5) (gn L 5))) _ _ hk0 (get40 S L name hS hL1 hL2) (lost43 _ _)
    (fun _ => rfl) (fun _ _ => rfl) (cntF_le _) rfl (fun _ => rfl) rfl
end Go.Proofs.T

namespace Go.Proofs.T
open Go Go.Hb

def ptAt (l : List Pt) (i : Nat) : Pt := l.getD i pt0
def cPts (l : List Pt) (i j : Nat) : CV := match j with
  | 0 => .i .i64 (((ptAt l i).n : Nat) : Int)
  | 1 => .s (ptAt l i).sum
  | 2 => .i .i64 (((ptAt l i).i : Nat) : Int)
  | _ => .s (ptAt l i).d
def addF (name : ByteArray) (T : Nat → Td) (k : Nat) : List Pt := match fitsF name k (T k).d with
  | some p => if (T k).e = 0 then [p] else []
  | none => []
def partsF (name : ByteArray) (T : Nat → Td) : Nat → List Pt
  | 0 => []
  | k + 1 => partsF name T k ++ addF name T k
def in3 (l : List Pt) (i k n : Nat) : Option ByteArray :=
  if n < l.length then (if (joinP (ptAt l i) (ptAt l k) (ptAt l n)).2 = true then some (joinP (ptAt l i) (ptAt l k) (ptAt l n)).1 else in3 l i k (n + 1)) else none
termination_by l.length - n
def in2 (l : List Pt) (i k : Nat) : Option ByteArray :=
  if k < l.length then (match in3 l i k (k + 1) with
    | some s => some s
    | none => in2 l i (k + 1)) else none
termination_by l.length - k
def in1 (l : List Pt) (i : Nat) : Option ByteArray :=
  if i < l.length then (match in2 l i (i + 1) with
    | some s => some s
    | none => in1 l (i + 1)) else none
termination_by l.length - i
def foundF (o : Option ByteArray) (lost : Int) : ByteArray × Int := match o with
  | some s => (s, 0)
  | none => (⟨#[]⟩, lost)

theorem fitsF_ok {name b : ByteArray} {i : Nat} {p : Pt} (hi : i < 5) (h : fitsF name i b = some p) : PtOk p ∧ p.i = i + 1 := by
  unfold fitsF fitsQ at h
  split at h
  · cases h
  · split at h
    · cases h
    · rename_i h2
      simp only [Option.some.injEq] at h
      subst h
      unfold no2 at h2
      have h0 : ¬ (intF (nth (textsF b).1 2)).1 < 0 := fun q => h2 (.inr (.inl q))
      have h1 : ¬ 65536 < (intF (nth (textsF b).1 2)).1 := fun q => h2 (.inr (.inr (.inl q)))
      have h3 : ((nth (textsF b).1 6).size : Int) = ((intF (nth (textsF b).1 2)).1 + 2) / 3 := Decidable.not_not.1 fun q => h2 (.inr (.inr (.inr (.inr (.inl q)))))
      exact ⟨⟨by show (intF (nth (textsF b).1 2)).1.toNat ≤ _; omega, by show (nth (textsF b).1 6).size = rowsN (intF (nth (textsF b).1 2)).1.toNat; unfold rowsN; omega, Nat.le_add_left 1 i, hi⟩, rfl⟩
structure PtsOk (l : List Pt) (k : Nat) : Prop where
  ok : ∀ p ∈ l, PtOk p ∧ p.i ≤ k
  lt : ∀ i j, i < j → j < l.length → (ptAt l i).i < (ptAt l j).i
  len : l.length ≤ k
theorem parts_ok (name : ByteArray) (T : Nat → Td) : ∀ k, k ≤ 5 → PtsOk (partsF name T k) k
  | 0, _ => ⟨fun p hp => (by cases hp), fun i j _ hj => absurd hj (Nat.not_lt_zero _), Nat.le_refl _⟩
  | k + 1, hk => by
    have ih := parts_ok name T k (by omega)
    have hadd : addF name T k = [] ∨ ∃ p, addF name T k = [p] ∧ PtOk p ∧ p.i = k + 1 := by
      unfold addF
      cases hf : fitsF name k (T k).d with
      | none => exact .inl rfl
      | some p =>
        simp only
        split
        · exact .inr ⟨p, rfl, fitsF_ok (by omega) hf⟩
        · exact .inl rfl
    unfold partsF
    rcases hadd with h | ⟨p, h, h1, h2⟩
    · rw [h, List.append_nil]
      exact ⟨fun q hq => ⟨(ih.ok q hq).1, Nat.le_succ_of_le (ih.ok q hq).2⟩, ih.lt, Nat.le_succ_of_le ih.len⟩
    · rw [h]
      refine ⟨fun q hq => ?_, fun i j hij hj => ?_, by have := ih.len; simp; omega⟩
      · rcases List.mem_append.1 hq with hq | hq
        · exact ⟨(ih.ok q hq).1, Nat.le_succ_of_le (ih.ok q hq).2⟩
        · simp only [List.mem_cons, List.not_mem_nil, or_false] at hq
          subst hq
          exact ⟨h1, Nat.le_of_eq h2⟩
      · simp only [List.length_append, List.length_cons, List.length_nil] at hj
        unfold ptAt
        rw [List.getD_eq_getElem?_getD, List.getD_eq_getElem?_getD, List.getElem?_append_left (show i < (partsF name T k).length by omega)]
        rcases Nat.lt_or_ge j (partsF name T k).length with hlt | hge
        · rw [List.getElem?_append_left hlt]
          have := ih.lt i j hij hlt
          unfold ptAt at this
          rwa [List.getD_eq_getElem?_getD, List.getD_eq_getElem?_getD] at this
        · have : j = (partsF name T k).length := by omega
          subst this
          rw [List.getElem?_append_right (Nat.le_refl _), Nat.sub_self]
          have hm := List.getElem?_eq_getElem hij
          rw [hm]
          simp only [List.getElem?_cons_zero, Option.getD_some, h2]
          have := (ih.ok _ (List.getElem_mem hij)).2
          omega
theorem pt_in {l : List Pt} {k i : Nat} (h : PtsOk l k) (hi : i < l.length) : PtOk (ptAt l i) := by
  unfold ptAt
  rw [List.getD_eq_getElem?_getD, List.getElem?_eq_getElem hi]
  exact (h.ok _ (List.getElem_mem hi)).1
theorem app_pt (l : List Pt) (p : Pt) : ∀ a j, a < l.length + 1 → j < 4 → appCell l.length (cPts l) (listCell 4 [.i .i64 ((p.n : Nat) : Int), .s p.sum, .i .i64 ((p.i : Nat) : Int), .s p.d]) a j = cPts (l ++ [p]) a j := by
  refine app_row (fun i j hi hj => ?_) (fun j hj => ?_)
  · have e : ptAt (l ++ [p]) i = ptAt l i := by
      unfold ptAt
      rw [List.getD_eq_getElem?_getD, List.getD_eq_getElem?_getD, List.getElem?_append_left hi]
    unfold cPts
    rw [e]
  · have e : ptAt (l ++ [p]) l.length = p := by
      unfold ptAt
      rw [List.getD_eq_getElem?_getD, List.getElem?_append_right (Nat.le_refl _), Nat.sub_self]
      rfl
    unfold cPts
    rw [e]
    obtain rfl | rfl | rfl | rfl : j = 0 ∨ j = 1 ∨ j = 2 ∨ j = 3 := by omega
    all_goals rfl
set_option maxHeartbeats 2000000 in
theorem read_walk (S : Nat → Sh) (L : Int) (name : ByteArray) (S' : Nat → Sh) (L' : Int) (T : Nat → Td) (g : Bool) (P : Nat → List Pt) (lost : Int) (l : List Pt)
    (A1 : Nat → Option ByteArray) (A2 : Nat → Nat → Option ByteArray) (A3 : Nat → Nat → Nat → Option ByteArray)
    (hk0 : lookF name 0 = 0) (hT : ∀ i, i < 5 → (T i).d.size ≤ 1099511627776) (hget : Pure Tryz.prog 40 [stA S L, .s name] (fun r => r = .tup [stA S' L', .agg (t5 T), .b g]))
    (hlost : Pure Tryz.prog 43 [.agg (t5 T), .b g] (fun r => r = .i .i64 lost))
    (hP0 : P 0 = []) (hP1 : ∀ k, P (k + 1) = P k ++ addF name T k) (hl : P 5 = l) (hok : PtsOk l 5) (hPl : ∀ k, k ≤ 5 → (P k).length ≤ 5)
    (h1 : ∀ i, A1 i = if i < l.length then (match A2 i (i + 1) with | some s => some s | none => A1 (i + 1)) else none)
    (h2 : ∀ i k, A2 i k = if k < l.length then (match A3 i k (k + 1) with | some s => some s | none => A2 i (k + 1)) else none)
    (h3 : ∀ i k n, A3 i k n = if n < l.length then (if (joinP (ptAt l i) (ptAt l k) (ptAt l n)).2 = true then some (joinP (ptAt l i) (ptAt l k) (ptAt l n)).1 else A3 i k (n + 1)) else none) :
    Pure Tryz.prog 14 [stA S L, .s name] (fun r => r = st3 S' L' (foundF (A1 0) lost)) := by
  have hlen := hok.len
  refine Pure.weak (Post := fun v => AVle v (st3 S' L' (foundF (A1 0) lost))) (Pure.of (XCall.bodyw is14 rfl ?_)) fun r h => ⟨_, rfl, h⟩
  unfold m14
  refine aW ?_
  refine XCall.lenv (look32 name 0) rfl ?_
  refine And.intro rfl (And.intro (AVles.refl _) ?_)
  rw [hk0]
  refine aW ?_
  refine brk.mk (fun hk => ?_) (fun hk => ?_)
  · exact absurd hk (by decide)
  refine aW ?_
  refine XCall.givv hget ?_
  refine And.intro rfl (And.intro (AVles.refl _) ?_)
  refine aN ?_
  refine aW ?_
  refine lpW.mk (fun σ => ∃ i : Nat, i ≤ 5 ∧ σ = ⟨[(1, .s name), (2, .p 0 0), (4, .p 1 0), (8, .p 2 0), (9, .b g), (10, .sl 3 4 0 (P i).length), (33, .agg (t5 T)), (34, .i .i64 (i : Int))], [(0, .lit (st11 S' L')), (1, .lit z11), (2, .lit (t5 T)), (3, .rows (P i).length 4 (cPts (P i)))], 4⟩) (fun σ => (5 - num 34 σ).toNat) ?_ ?_
  · refine ⟨_, Le.trans (Le.nils (t := 10) (size := 4) (cell := cPts []) rfl) (Le.mk ?_ ?_ rfl rfl), 0, by decide, rfl⟩
    · exact ⟨rfl, rfl, rfl, rfl, rfl, by rw [hP0]; rfl, rfl, rfl, trivial⟩
    · exact ⟨rfl, rfl, rfl, by rw [hP0]; exact BlkLe.refl _ rfl, trivial⟩
  rintro σ' ⟨i, hi, rfl⟩
  refine aW ?_
  refine brk.mk (fun hc => ?_) (fun hc => ?_)
  · have hi5 : i < 5 := by have := of_decide_eq_true hc; omega
    have w0 : IntKind.i64.wrap ((i : Int) + 1) = ((i + 1 : Nat) : Int) := by rw [wrap_int (by omega) (by omega)]; omega
    have hPi := hPl i hi
    have hfit := fits41 name (T i).d i hi5 (hT i hi5)
    have hadd : addF name T i = (match fitsF name i (T i).d with
      | some p => if (T i).e = 0 then [p] else []
      | none => []) := rfl
    have stay : addF name T i = [] → P i = P (i + 1) := fun h => by rw [hP1, h, List.append_nil]
    generalize fitsF name i (T i).d = o at *
    refine aW ?_
    refine Exists.intro i (And.intro rfl (And.intro hi5 (Exists.intro (tC (T i)) (And.intro (t5_at T i hi5) ?_))))
    refine aW ?_
    cases o with
    | none =>
      refine XCall.lenv hfit rfl ?_
      refine And.intro rfl (And.intro (AVles.refl _) ?_)
      refine aN ?_
      refine aW ?_
      refine brk.mk (fun hz => ?_) (fun hz => ?_)
      · cases hz
      refine aW ?_
      refine Lq.nx _ (Le.mk ?_ ?_ rfl rfl) ⟨i + 1, hi5, rfl⟩ ?_
      · exact ⟨rfl, rfl, rfl, rfl, rfl, congrArg (fun q : List Pt => AV.sl 3 4 0 q.length) (stay hadd), rfl, congrArg (AV.i .i64) w0, trivial⟩
      · exact ⟨rfl, rfl, rfl, by rw [← stay hadd]; exact BlkLe.refl _ rfl, trivial⟩
      · show (5 - ((i + 1 : Nat) : Int)).toNat < (5 - (i : Int)).toNat
        omega
    | some p =>
      refine XCall.lenv hfit rfl ?_
      refine And.intro rfl (And.intro (AVles.refl _) ?_)
      refine aN ?_
      refine aW ?_
      refine brk.mk (fun hz => ?_) (fun hz => ?_)
      rotate_left
      · cases hz
      refine aW ?_
      refine brk.mk (fun he => ?_) (fun he => ?_)
      · have he' : (T i).e = 0 := eq_of_beq he
        have hnew : P (i + 1) = P i ++ [p] := by rw [hP1, hadd]; simp only [if_pos he']
        refine aW ?_
        refine And.intro (Nat.le_refl _) ?_
        refine And.intro (show ((P i).length + 1) * 48 ≤ 140737488355328 by omega) ?_
        refine aW ?_
        refine Lq.nx _ (Le.trans (Le.swap 3 7 (by decide) (by decide) (by decide : 3 < 8) (by decide : 7 < 8)) (Le.mk ?_ ?_ rfl rfl)) ⟨i + 1, hi5, rfl⟩ ?_
        · exact ⟨rfl, rfl, rfl, rfl, rfl, congrArg (AV.sl 3 4 0) (by rw [hnew]; simp), rfl, congrArg (AV.i .i64) w0, trivial⟩
        · exact ⟨rfl, rfl, rfl, by rw [hnew]; exact BlkLe.rows (by simp) (fun a j ha hj => app_pt (P i) p a j (by simpa using ha) hj), trivial⟩
        · show (5 - ((i + 1 : Nat) : Int)).toNat < (5 - (i : Int)).toNat
          omega
      · have he' : ¬ (T i).e = 0 := fun e => by rw [e] at he; simp at he
        have hst : P i = P (i + 1) := stay (by rw [hadd]; simp only [if_neg he'])
        refine aW ?_
        refine Lq.nx _ (Le.mk ?_ ?_ rfl rfl) ⟨i + 1, hi5, rfl⟩ ?_
        · exact ⟨rfl, rfl, rfl, rfl, rfl, congrArg (fun q : List Pt => AV.sl 3 4 0 q.length) hst, rfl, congrArg (AV.i .i64) w0, trivial⟩
        · exact ⟨rfl, rfl, rfl, by rw [← hst]; exact BlkLe.refl _ rfl, trivial⟩
        · show (5 - ((i + 1 : Nat) : Int)).toNat < (5 - (i : Int)).toNat
          omega
  have hi5 : i = 5 := by have := of_decide_eq_false hc; omega
  subst hi5
  rw [hl]
  refine aW ?_
  refine lpW.mk (fun σ => ∃ i : Nat, i ≤ l.length ∧ A1 i = A1 0 ∧ σ = ⟨[(2, .p 0 0), (4, .p 1 0), (8, .p 2 0), (9, .b g), (10, .sl 3 4 0 l.length), (58, .i .i64 (l.length : Int)), (59, .i .i64 (i : Int))], [(0, .lit (st11 S' L')), (1, .lit z11), (2, .lit (t5 T)), (3, .rows l.length 4 (cPts l))], 4⟩) (fun σ => (l.length - num 59 σ).toNat) ?_ ?_
  · refine ⟨_, Le.mk ?_ ?_ rfl rfl, 0, Nat.zero_le _, rfl, rfl⟩
    · exact ⟨rfl, rfl, rfl, rfl, rfl, rfl, rfl, trivial⟩
    · exact ⟨rfl, rfl, rfl, BlkLe.refl _ rfl, trivial⟩
  rintro σ' ⟨i, hi, hA1, rfl⟩
  refine aW ?_
  refine brk.mk (fun hc => ?_) (fun hc => ?_)
  · have hil : i < l.length := by have := of_decide_eq_true hc; omega
    have wi : IntKind.i64.wrap ((i : Int) + 1) = ((i + 1 : Nat) : Int) := by rw [wrap_int (by omega) (by omega)]; omega
    have g1 := h1 i
    rw [if_pos hil] at g1
    refine aW ?_
    refine lpW.mk (fun σ => ∃ k : Nat, i < k ∧ k ≤ l.length ∧ A2 i k = A2 i (i + 1) ∧ σ = ⟨[(2, .p 0 0), (4, .p 1 0), (8, .p 2 0), (9, .b g), (10, .sl 3 4 0 l.length), (58, .i .i64 (l.length : Int)), (59, .i .i64 (i : Int)), (15, .i .i64 (i : Int)), (16, .i .i64 (k : Int))], [(0, .lit (st11 S' L')), (1, .lit z11), (2, .lit (t5 T)), (3, .rows l.length 4 (cPts l))], 4⟩) (fun σ => (l.length - num 16 σ).toNat) ?_ ?_
    · refine ⟨_, Le.mk ?_ ?_ rfl rfl, i + 1, Nat.lt_succ_self i, hil, rfl, rfl⟩
      · exact ⟨rfl, rfl, rfl, rfl, rfl, rfl, rfl, rfl, congrArg (AV.i .i64) wi, trivial⟩
      · exact ⟨rfl, rfl, rfl, BlkLe.refl _ rfl, trivial⟩
    rintro σ' ⟨k, hik, hk, hA2, rfl⟩
    refine aW ?_
    refine brk.mk (fun hc => ?_) (fun hc => ?_)
    · have hkl : k < l.length := by have := of_decide_eq_true hc; omega
      have wk : IntKind.i64.wrap ((k : Int) + 1) = ((k + 1 : Nat) : Int) := by rw [wrap_int (by omega) (by omega)]; omega
      have g2 := h2 i k
      rw [if_pos hkl] at g2
      refine aW ?_
      refine lpW.mk (fun σ => ∃ n : Nat, k < n ∧ n ≤ l.length ∧ A3 i k n = A3 i k (k + 1) ∧ σ = ⟨[(2, .p 0 0), (4, .p 1 0), (8, .p 2 0), (9, .b g), (10, .sl 3 4 0 l.length), (58, .i .i64 (l.length : Int)), (59, .i .i64 (i : Int)), (15, .i .i64 (i : Int)), (16, .i .i64 (k : Int)), (17, .i .i64 (n : Int))], [(0, .lit (st11 S' L')), (1, .lit z11), (2, .lit (t5 T)), (3, .rows l.length 4 (cPts l))], 4⟩) (fun σ => (l.length - num 17 σ).toNat) ?_ ?_
      · refine ⟨_, Le.mk ?_ ?_ rfl rfl, k + 1, Nat.lt_succ_self k, hkl, rfl, rfl⟩
        · exact ⟨rfl, rfl, rfl, rfl, rfl, rfl, rfl, rfl, rfl, congrArg (AV.i .i64) wk, trivial⟩
        · exact ⟨rfl, rfl, rfl, BlkLe.refl _ rfl, trivial⟩
      rintro σ' ⟨n, hkn, hn, hA3, rfl⟩
      refine aW ?_
      refine brk.mk (fun hc => ?_) (fun hc => ?_)
      · have hnl : n < l.length := by have := of_decide_eq_true hc; omega
        have wn : IntKind.i64.wrap ((n : Int) + 1) = ((n + 1 : Nat) : Int) := by rw [wrap_int (by omega) (by omega)]; omega
        have g3 := h3 i k n
        rw [if_pos hnl] at g3
        have hj := join42 (ptAt l i) (ptAt l k) (ptAt l n) (pt_in hok hil) (pt_in hok hkl) (pt_in hok hnl) (hok.lt i k hik hkl) (hok.lt k n hkn hnl)
        generalize joinP (ptAt l i) (ptAt l k) (ptAt l n) = q at *
        refine aW ?_
        refine Exists.intro i (And.intro rfl (And.intro hil ?_))
        refine And.intro (show 0 + i < l.length by omega) ?_
        refine Exists.intro k (And.intro rfl (And.intro hkl ?_))
        refine And.intro (show 0 + k < l.length by omega) ?_
        refine Exists.intro n (And.intro rfl (And.intro hnl ?_))
        refine And.intro (show 0 + n < l.length by omega) ?_
        refine aN ?_
        have ez : ∀ m : Nat, feCells (cPts l (0 + m)) 0 4 = ptC (ptAt l m) := fun m => by rw [Nat.zero_add]; rfl
        refine XCall.lenv hj rfl ?_
        refine And.intro rfl (And.intro (AVles.cons (AVle.of_eq (congrArg AV.agg (ez i))) (AVles.cons (AVle.of_eq (congrArg AV.agg (ez k))) (AVles.cons (AVle.of_eq (congrArg AV.agg (ez n))) AVles.nil))) ?_)
        refine aN ?_
        refine aW ?_
        refine brk.mk (fun hq => ?_) (fun hq => ?_)
        · have e3 : A3 i k n = some q.1 := by rw [g3, if_pos hq]
          have e2 : A2 i k = some q.1 := by rw [g2, ← hA3, e3]
          have e1 : A1 0 = some q.1 := by rw [← hA1, g1, ← hA2, e2]
          refine aW ?_
          refine Rq.rt ?_
          refine And.intro rfl ?_
          rw [e1]
          exact AVle.refl _
        · have e3 : A3 i k n = A3 i k (n + 1) := by rw [g3, if_neg (by rw [hq]; decide)]
          refine aW ?_
          refine Lq.nx _ (Le.mk ?_ ?_ rfl rfl) ⟨n + 1, by omega, hnl, by rw [← e3, hA3], rfl⟩ ?_
          · exact ⟨rfl, rfl, rfl, rfl, rfl, rfl, rfl, rfl, rfl, congrArg (AV.i .i64) wn, trivial⟩
          · exact ⟨rfl, rfl, rfl, BlkLe.refl _ rfl, trivial⟩
          · show ((l.length : Int) - ((n + 1 : Nat) : Int)).toNat < ((l.length : Int) - (n : Int)).toNat
            omega
      have hnl : ¬ n < l.length := by have := of_decide_eq_false hc; omega
      have g3 := h3 i k n
      rw [if_neg hnl] at g3
      have e2 : A2 i k = A2 i (k + 1) := by rw [g2, ← hA3, g3]
      refine aW ?_
      refine Lq.nx _ (Le.mk ?_ ?_ rfl rfl) ⟨k + 1, by omega, hkl, by rw [← e2, hA2], rfl⟩ ?_
      · exact ⟨rfl, rfl, rfl, rfl, rfl, rfl, rfl, rfl, congrArg (AV.i .i64) wk, trivial⟩
      · exact ⟨rfl, rfl, rfl, BlkLe.refl _ rfl, trivial⟩
      · show ((l.length : Int) - ((k + 1 : Nat) : Int)).toNat < ((l.length : Int) - (k : Int)).toNat
        omega
    have hkl : ¬ k < l.length := by have := of_decide_eq_false hc; omega
    have g2 := h2 i k
    rw [if_neg hkl] at g2
    have e1 : A1 i = A1 (i + 1) := by rw [g1, ← hA2, g2]
    refine aW ?_
    refine Lq.nx _ (Le.mk ?_ ?_ rfl rfl) ⟨i + 1, hil, by rw [← e1, hA1], rfl⟩ ?_
    · exact ⟨rfl, rfl, rfl, rfl, rfl, rfl, congrArg (AV.i .i64) wi, trivial⟩
    · exact ⟨rfl, rfl, rfl, BlkLe.refl _ rfl, trivial⟩
    · show ((l.length : Int) - ((i + 1 : Nat) : Int)).toNat < ((l.length : Int) - (i : Int)).toNat
      omega
  have hil : ¬ i < l.length := by have := of_decide_eq_false hc; omega
  have g1 := h1 i
  rw [if_neg hil, hA1] at g1
  refine aW ?_
  refine XCall.lenv hlost rfl ?_
  refine And.intro rfl (And.intro (AVles.refl _) ?_)
  refine And.intro rfl ?_
  refine aN ?_
  refine aW ?_
  refine Rq.rt ?_
  refine And.intro rfl ?_
  rw [g1]
  exact AVle.refl _
def readF (S : Nat → Sh) (L : Int) (name : ByteArray) : ByteArray × Int := foundF (in1 (partsF name (tdK (getC S name) L 5) 5) 0) (lostF (tdK (getC S name) L 5) (gn L 5))
theorem read14 (S : Nat → Sh) (L : Int) (name : ByteArray) (hk0 : lookF name 0 = 0) (hS : ∀ i, i < 5 → Small (S i)) (hT : ∀ i, i < 5 → (tdK (getC S name) L 5 i).d.size ≤ 1099511627776) (hL1 : -9223372036854775808 ≤ L) (hL2 : L < 9223372036854775808) :
    Pure Tryz.prog 14 [stA S L, .s name] (fun r => r = st3 (shK (getC S name) S L 5) (lf L 5) (readF S L name)) :=
  read_walk S L name _ _ (tdK (getC S name) L 5) (gn L 5) (partsF name (tdK (getC S name) L 5)) _ _ (in1 (partsF name (tdK (getC S name) L 5) 5)) (in2 (partsF name (tdK (getC S name) L 5) 5)) (in3 (partsF name (tdK (getC S name) L 5) 5))
    hk0 hT (get40 S L name hS hL1 hL2) (lost43 _ _) rfl (fun _ => rfl) rfl (parts_ok name _ 5 (Nat.le_refl _)) (fun k hk => Nat.le_trans (parts_ok name _ k hk).len hk)
    (fun i => by rw [in1]) (fun i k => by rw [in2]) (fun i k n => by rw [in3])
end Go.Proofs.T

namespace Go.Proofs.T
open Go Go.Hb

/-! What a spread store tells: plain law -/
def sh0 : Sh := ⟨[], []⟩
def One (name d : ByteArray) (s : Sh) : Prop := ∃ w h, s = ⟨[⟨name, d, w, h⟩], []⟩ ∧ w.size ≤ 65536 ∧ (h = false → w.size = 0)
theorem put_new {name data : ByteArray} (hn : Named name) (hd : data.size ≤ 65536) : put sh0 name data = (⟨[⟨name, data, ⟨#[]⟩, false⟩], []⟩, 0) := by
  have h0 : check sh0.objs = 0 := rfl
  have hf : fateOf sh0 = 0 := rfl
  unfold put
  rw [if_neg (fun h => h h0), if_neg (fun h => h hn), if_neg (by omega), hf, if_neg (by decide), if_neg (by decide), if_neg (by decide)]
  have hu : upd sh0.objs name data = [⟨name, data, ⟨#[]⟩, false⟩] := by
    unfold upd
    rw [if_neg (fun h => absurd h.1 (Nat.not_lt_zero _))]
    rfl
  rw [hu]
  rfl
theorem get_new {name : ByteArray} (hn : Named name) : get sh0 name = (sh0, ⟨#[]⟩, 9) := by
  have h0 : check sh0.objs = 0 := rfl
  have hf : fateOf sh0 = 0 := rfl
  unfold get
  rw [if_neg (fun h => h h0), if_neg (fun h => h hn), hf, if_neg (by decide), if_pos (.inr (.inl fun h => absurd h.1 (Nat.not_lt_zero _)))]
  rfl
theorem one_facts {name d w : ByteArray} {h : Bool} (hn : Named name) (hd : d.size ≤ 65536) (hw : w.size ≤ 65536) (hh : h = false → w.size = 0) : check [⟨name, d, w, h⟩] = 0 := by
  refine check0.2 fun k hk => ?_
  obtain rfl : k = 0 := by simpa using hk
  refine ⟨hn, fun q => absurd q.1 (by decide), fun q => absurd q.1 (by decide), ?_, ?_⟩
  · rintro (q | q)
    · exact absurd q (Nat.not_lt.2 hd)
    · exact absurd q (Nat.not_lt.2 hw)
  · rintro ⟨q1, q2⟩
    exact q2 (hh q1)
theorem one_pos {name d w : ByteArray} {h : Bool} : pos [⟨name, d, w, h⟩] name = 0 := by
  unfold pos
  rw [List.takeWhile_cons_of_neg (by rw [ltb_irrefl]; decide)]
  rfl
theorem one_there {name d w : ByteArray} {h : Bool} : there [⟨name, d, w, h⟩] name := by
  unfold there
  rw [one_pos]
  exact ⟨by simp, rfl⟩
theorem put_one {name data d : ByteArray} {s : Sh} (hs : One name d s) (hn : Named name) (hd0 : d.size ≤ 65536) (hd : data.size ≤ 65536) : One name data (put s name data).1 ∧ (put s name data).2 = 0 := by
  obtain ⟨w, h, rfl, hw, hh⟩ := hs
  have h0 := one_facts hn hd0 hw hh
  have hf : fateOf ⟨[⟨name, d, w, h⟩], []⟩ = 0 := rfl
  have e : put ⟨[⟨name, d, w, h⟩], []⟩ name data = (⟨[⟨name, data, d, true⟩], []⟩, 0) := by
    unfold put
    rw [if_neg (fun q => q h0), if_neg (fun q => q hn), if_neg (by omega), hf, if_neg (by decide), if_neg (by decide), if_neg (by decide)]
    have hu : upd [⟨name, d, w, h⟩] name data = [⟨name, data, d, true⟩] := by
      unfold upd
      rw [if_pos one_there, one_pos]
      rfl
    exact congrArg (fun q => ((⟨q, []⟩ : Sh), (0 : Int))) hu
  rw [e]
  exact ⟨⟨d, true, rfl, hd0, fun q => by cases q⟩, rfl⟩
theorem put_first {name data : ByteArray} (hn : Named name) (hd : data.size ≤ 65536) : One name data (put sh0 name data).1 ∧ (put sh0 name data).2 = 0 := by
  rw [put_new hn hd]
  exact ⟨⟨⟨#[]⟩, false, rfl, by decide, fun _ => rfl⟩, rfl⟩
theorem get_one {name d : ByteArray} {s : Sh} (hs : One name d s) (hn : Named name) (hd : d.size ≤ 65536) : get s name = (s, d, 0) := by
  obtain ⟨w, h, rfl, hw, hh⟩ := hs
  have h0 := one_facts hn hd hw hh
  have hf : fateOf ⟨[⟨name, d, w, h⟩], []⟩ = 0 := rfl
  unfold get
  rw [if_neg (fun q => q h0), if_neg (fun q => q hn), hf, if_neg (by decide)]
  rw [if_neg (by
    rintro (q | q | q)
    · exact absurd q (by decide)
    · exact q one_there
    · exact absurd q.1 (by decide)), if_neg (by decide), if_neg (by decide), one_pos]
  rfl
theorem small0 : Small sh0 := ⟨Nat.zero_le _, Nat.zero_le _⟩
theorem small_one {name d : ByteArray} {s : Sh} (hs : One name d s) : Small s := by
  obtain ⟨w, h, rfl, _⟩ := hs
  exact ⟨by show 1 ≤ _; omega, Nat.zero_le _⟩

def pOf (data : ByteArray) (j : Nat) : Pt := ⟨data.size, rawB (sumF data), j + 1, cutF data (j + 1)⟩
theorem fits_part {name data : ByteArray} {j : Nat} (hn : name.size ≤ 100) (hd : data.size ≤ 65536) (hj : j < 5) : fitsF name j (partB name data j) = some (pOf data j) := by
  have ht : textsF (partB name data j) = (partL name data j, 0) := texts_of_row _ fun s hs => Nat.lt_of_le_of_lt (partL_le name data j hn hd hj s hs) (by omega)
  have hi : intF (decB (data.size : Int)) = ((data.size : Int), true) := intF_dec data.size (by omega)
  unfold fitsF
  rw [ht]
  unfold fitsQ
  have e2 : nth (partL name data j) 2 = decB (data.size : Int) := rfl
  have e4 : nth (partL name data j) 4 = rawB (sumF data) := rfl
  have e5 : nth (partL name data j) 5 = rawB (sumF (cutF data (j + 1))) := rfl
  have e6 : nth (partL name data j) 6 = cutF data (j + 1) := rfl
  rw [if_neg (by
    rintro (q | q | q | q | q)
    · exact q rfl
    · exact q rfl
    · exact q rfl
    · exact q rfl
    · exact q rfl)]
  rw [if_neg (by
    unfold no2
    rw [e2, e4, e5, e6, hi]
    rintro (q | q | q | q | q | q)
    · cases q
    · simp only at q; omega
    · simp only at q; omega
    · exact q (rawB_size _)
    · apply q
      rw [cutF_size]
      unfold rowsN
      simp only
      omega
    · exact q rfl)]
  simp only [e2, e4, e6, hi]
  rfl
theorem join_parts {data : ByteArray} {p q r : Nat} (h1 : p < q) (h2 : q < r) (h3 : r < 5) : joinP (pOf data p) (pOf data q) (pOf data r) = (data, true) := by
  unfold joinP
  have hj : joinF (pOf data p).i (pOf data q).i (pOf data r).i (pOf data p).d (pOf data q).d (pOf data r).d (pOf data p).n = data := join_cut data (Nat.le_add_left 1 p) (by show p + 1 < q + 1; omega) (by show q + 1 < r + 1; omega) (by show r + 1 < 6; omega)
  rw [if_neg (by
    rintro (q | q | q | q)
    · exact q rfl
    · exact q rfl
    · exact q rfl
    · exact q rfl), hj]
  refine Prod.ext rfl ?_
  exact decide_eq_true rfl
theorem in1_found {l : List Pt} {data : ByteArray} {p q r : Nat} (h1 : p < q) (h2 : q < r) (h3 : r < 5) (hl : 3 ≤ l.length) (e0 : ptAt l 0 = pOf data p) (e1 : ptAt l 1 = pOf data q) (e2 : ptAt l 2 = pOf data r) : in1 l 0 = some data := by
  have a3 : in3 l 0 1 2 = some data := by
    rw [in3, if_pos (by omega), e0, e1, e2, join_parts h1 h2 h3, if_pos rfl]
  have a2 : in2 l 0 1 = some data := by
    rw [in2, if_pos (by omega)]
    show (match in3 l 0 1 2 with
      | some s => some s
      | none => in2 l 0 2) = _
    rw [a3]
  rw [in1, if_pos (by omega)]
  show (match in2 l 0 1 with
    | some s => some s
    | none => in1 l 1) = _
  rw [a2]
theorem in1_none {l : List Pt} (hl : l.length < 3) : in1 l 0 = none := by
  have a3 : ∀ i k n, 2 ≤ n → in3 l i k n = none := fun i k n h => by rw [in3, if_neg (by omega)]
  have a2 : ∀ i k, 1 ≤ k → in2 l i k = none := by
    intro i k hk
    rw [in2]
    split
    · rw [a3 i k (k + 1) (by omega)]
      simp only
      rw [in2, if_neg (by omega)]
    · rfl
  have a1 : ∀ m i, m = 3 - i → in1 l i = none := by
    intro m
    induction m with
    | zero => intro i hi; rw [in1, if_neg (by omega)]
    | succ m ih =>
      intro i hi
      rw [in1]
      split
      · rw [a2 i (i + 1) (by omega)]
        simp only
        exact ih (i + 1) (by omega)
      · rfl
  exact a1 3 0 rfl
theorem add_no {name : ByteArray} {T : Nat → Td} {k : Nat} (h : (T k).e ≠ 0) : addF name T k = [] := by
  unfold addF
  cases fitsF name k (T k).d with
  | none => rfl
  | some p => simp only [if_neg h]
theorem add_yes {name data : ByteArray} {T : Nat → Td} {k : Nat} (hn : name.size ≤ 100) (hd : data.size ≤ 65536) (hk : k < 5) (h : T k = ⟨partB name data k, 0⟩) : addF name T k = [pOf data k] := by
  unfold addF
  rw [h, fits_part hn hd hk]
  simp only [if_pos]
theorem live_neg {i : Nat} : live (-1) i = true := decide_eq_true (.inl (by decide))
theorem tdK_neg {c : Nat → Sh × Td} {j : Nat} (hj : j < 5) : tdK c (-1) 5 j = (c j).2 := by
  unfold tdK
  rw [if_pos hj, if_pos live_neg]
theorem shK_neg {c : Nat → Sh × Td} {S : Nat → Sh} {j : Nat} (hj : j < 5) : shK c S (-1) 5 j = (c j).1 := by
  unfold shK
  rw [if_pos ⟨hj, live_neg⟩]
theorem gn_neg : gn (-1) 5 = false := by decide
theorem lf_neg1 (k : Nat) : lf (-1) k = -1 := by unfold lf; rw [if_pos (by decide)]
end Go.Proofs.T

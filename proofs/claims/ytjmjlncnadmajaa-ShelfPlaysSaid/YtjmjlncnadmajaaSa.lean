/-
  Parts of the proof: no statement of the seat is proved here.
-/
import Derived.Test.YtjmjlncnadmajaaFa
import Derived.Test.YtjmjlncnadmajaaEd
set_option linter.unusedSimpArgs false
set_option linter.unusedVariables false

namespace Go.Proofs.T
open Go Go.Hb

structure Ob where
  name : ByteArray
  data : ByteArray
  was : ByteArray
  had : Bool
def ob0 : Ob := ⟨⟨#[]⟩, ⟨#[]⟩, ⟨#[]⟩, false⟩
structure Sh where
  objs : List Ob
  fates : List Int

def cellO (l : List Ob) (i j : Nat) : CV := match j with
  | 0 => .s (l.getD i ob0).name
  | 1 => .s (l.getD i ob0).data
  | 2 => .s (l.getD i ob0).was
  | _ => .b (l.getD i ob0).had
def cellF (l : List Int) (i j : Nat) : CV := .i .i64 (l.getD i 0)
def oAV (l : List Ob) : AV := .fs l.length 4 (cellO l)
def fAV (l : List Int) : AV := .fs l.length 1 (cellF l)
def sAV (s : Sh) : AV := .agg [oAV s.objs, fAV s.fates]


theorem named_spec (x : ByteArray) : Pure Try.prog 25 [.s x] (fun r => r = .b (decide (1 ≤ x.size ∧ x.size ≤ 100))) := by
  refine Pure.weak (Post := fun r => AVle r (.b (decide (1 ≤ x.size ∧ x.size ≤ 100)))) (Pure.of (XCall.body is25 rfl ?_)) fun r h => ⟨_, rfl, h⟩
  refine And.intro (fun h => ?_) (fun h => ?_)
  · refine ⟨rfl, ?_⟩
    exact AVle.of_eq (congrArg AV.b (decide_eq_decide.2 (by have := of_decide_eq_true h; omega)))
  · refine ⟨rfl, ?_⟩
    exact AVle.trans AVle.ff (AVle.of_eq (congrArg AV.b (decide_eq_false (by have := of_decide_eq_false h; omega)).symm))

theorem cloneO {l : List Ob} (hl : l.length ≤ 1099511627776) : XCall Try.prog 36 [oAV l] [] 0 (Gives (.sl 1 4 0 l.length) [(1, .rows l.length 4 (cellO l)), (0, .dead), (0, .lit [])] 2) := by
  refine XCall.weak1 ⟨rfl, rfl, rfl⟩ (XCall.body is36 rfl ?_)
  refine (fun b hb => ?_ : ∀ b : Bool, (b = true → l.length = 0) → _)
  refine And.intro (fun hc => ?_) (fun hc => ?_)
  · have h0 : l.length = 0 := hb (by simpa using hc)
    rw [h0]
    exact Lev.trans (Lev.skip (.lit [])) Lev.nils
  · refine And.intro (show (0 + l.length) * 56 ≤ 140737488355328 by omega) ?_
    refine Lev.trans (Lev.top1 (k2 := .rows l.length 4 (cellO l)) fun _ => BlkLe.rows (by omega) fun i j hi hj => appCell_new (Nat.zero_le _) j) (Lev.of (AVle.of_eq ?_))
    show AV.sl 1 4 0 (0 + l.length) = _
    rw [Nat.zero_add]

theorem cloneF {l : List Int} (hl : l.length ≤ 1099511627776) : XCall Try.prog 37 [fAV l] [] 0 (Gives (.sl 1 1 0 l.length) [(1, .rows l.length 1 (cellF l)), (0, .dead), (0, .lit [])] 2) := by
  refine XCall.weak1 ⟨rfl, rfl, rfl⟩ (XCall.body is37 rfl ?_)
  refine (fun b hb => ?_ : ∀ b : Bool, (b = true → l.length = 0) → _)
  refine And.intro (fun hc => ?_) (fun hc => ?_)
  · have h0 : l.length = 0 := hb (by simpa using hc)
    rw [h0]
    exact Lev.trans (Lev.skip (.lit [])) Lev.nils
  · refine And.intro (show (0 + l.length) * 8 ≤ 140737488355328 by omega) ?_
    refine Lev.trans (Lev.top1 (k2 := .rows l.length 1 (cellF l)) fun _ => BlkLe.rows (by omega) fun i j hi hj => appCell_new (Nat.zero_le _) j) (Lev.of (AVle.of_eq ?_))
    show AV.sl 1 1 0 (0 + l.length) = _
    rw [Nat.zero_add]
end Go.Proofs.T

namespace Go.Proofs.T
open Go Go.Hb

theorem cmp46 {H : List (Nat × Blk)} {nxt : Nat} {K : AV → List (Nat × Blk) → Nat → Prop} {a b : ByteArray} (h : K (.i .i64 (Extern.BytealgCompare.cmp a b)) H nxt) : XCall Try.prog 46 [.s a, .s b] H nxt K :=
  XCall.cmp (fn := Try.f46) Try.func46 (by decide) rfl (by kernel_rfl) (by kernel_rfl) h

theorem cmp44 (a b : ByteArray) : Pure Try.prog 44 [.s a, .s b] (fun r => r = .i .i64 (Extern.BytealgCompare.cmp a b)) := by
  refine Pure.of (XCall.body is44 rfl ?_)
  refine cmp46 ?_
  exact ⟨rfl, rfl⟩
theorem cmp40 (a b : ByteArray) : Pure Try.prog 40 [.s a, .s b] (fun r => r = .i .i64 (Extern.BytealgCompare.cmp a b)) := by
  refine Pure.of (XCall.body is40 rfl ?_)
  refine XCall.lenv (cmp44 a b) rfl ?_
  exact ⟨rfl, AVles.refl _, rfl, rfl⟩
theorem find39 (x : Ob) (name : ByteArray) : Pure Try.prog 39 [.agg [.s x.name, .s x.data, .s x.was, .b x.had], .s name] (fun r => r = .i .i64 (Extern.BytealgCompare.cmp x.name name)) := by
  refine Pure.of (XCall.body is39 rfl ?_)
  refine XCall.lenv (cmp40 x.name name) rfl ?_
  exact ⟨rfl, AVles.refl _, rfl, rfl⟩

/-- The objects' names, by rising words. -/
def Sorted (l : List Ob) : Prop := ∀ i j, i < j → j < l.length → ltb (l.getD i ob0).name (l.getD j ob0).name = true

/-- Where a name is, or would be. -/
structure At (l : List Ob) (name : ByteArray) (i : Nat) : Prop where
  le : i ≤ l.length
  lo : ∀ k, k < i → ltb (l.getD k ob0).name name = true
  hi : ∀ k, i ≤ k → k < l.length → ltb (l.getD k ob0).name name = false

theorem search (l : List Ob) (name : ByteArray) (hs : Sorted l) (hl : l.length ≤ 1099511627776) : Pure Try.prog 38 [oAV l, .s name, .fn (.func 39) [] []] (fun r => ∃ i, At l name i ∧ r = .tup [.i .i64 (i : Int), .b (decide (i < l.length ∧ (l.getD i ob0).name = name))]) := by
  refine Pure.weak (Post := fun r => ∃ i, At l name i ∧ AVle r (.tup [.i .i64 (i : Int), .b (decide (i < l.length ∧ (l.getD i ob0).name = name))])) (Pure.of (XCall.body is38 rfl ?_)) fun r ⟨i, h1, h2⟩ => ⟨_, ⟨i, h1, rfl⟩, h2⟩
  refine Exists.intro (fun σ => ∃ i j : Nat, i ≤ j ∧ j ≤ l.length ∧ (∀ k, k < i → ltb (l.getD k ob0).name name = true) ∧ (∀ k, j ≤ k → k < l.length → ltb (l.getD k ob0).name name = false) ∧
    σ = ⟨[(0, oAV l), (1, .s name), (2, .fn (.func 39) [] []), (8, .i .i64 (l.length : Int)), (9, .i .i64 (i : Int)), (10, .i .i64 (j : Int))], [], 0⟩) ?_
  refine Exists.intro (fun σ => (num 10 σ - num 9 σ).toNat) ?_
  refine And.intro ⟨_, Le.mk ?_ ?_ rfl rfl, 0, l.length, Nat.zero_le _, Nat.le_refl _, (fun k hk => absurd hk (Nat.not_lt_zero _)), (fun k h1 h2 => by omega), rfl⟩ ?_
  · exact ⟨rfl, rfl, rfl, rfl, rfl, rfl, trivial⟩
  · exact trivial
  rintro σ' ⟨i, j, hij, hjn, hlo, hhi, rfl⟩
  refine And.intro (fun hc => ?_) (fun hc => ?_)
  · -- one more look
    have hc' : (i : Int) < j := of_decide_eq_true hc
    have hm : IntKind.i64.wrap (Int.fdiv (IntKind.u64.wrap (IntKind.i64.wrap ((i : Int) + (j : Int)))) (2 ^ min (Int.toNat 1) IntKind.u64.bits)) = (((i + j) / 2 : Nat) : Int) := by
      have e1 : IntKind.i64.wrap ((i : Int) + (j : Int)) = ((i + j : Nat) : Int) := by rw [wrap_int (by omega) (by omega)]; omega
      have e2 : IntKind.u64.wrap (((i + j : Nat) : Int)) = ((i + j : Nat) : Int) := by simp [IntKind.wrap, IntKind.bits, IntKind.signed]; omega
      rw [e1, e2]
      have e3 : (2 : Int) ^ min (Int.toNat 1) IntKind.u64.bits = 2 := rfl
      rw [e3, Int.fdiv_eq_ediv_of_nonneg _ (by omega), wrap_int (by omega) (by omega)]
      omega
    have hmi : i ≤ (i + j) / 2 := by omega
    have hmj : (i + j) / 2 < j := by omega
    refine And.intro (show (0 : Int) ≤ 1 by omega) ?_
    refine Exists.intro ((i + j) / 2) ?_
    refine And.intro hm ?_
    refine And.intro (show (i + j) / 2 < l.length by omega) ?_
    refine XCall.lenv (find39 (l.getD ((i + j) / 2) ob0) name) rfl ?_
    refine And.intro rfl (And.intro (AVles.refl _) ?_)
    refine And.intro (fun hcc => ?_) (fun hcc => ?_)
    · -- it lies behind
      have hlt : ltb (l.getD ((i + j) / 2) ob0).name name = true := (cmp_lt _ _).1 (of_decide_eq_true hcc)
      refine Exists.intro ⟨[(0, oAV l), (1, .s name), (2, .fn (.func 39) [] []), (8, .i .i64 (l.length : Int)), (9, .i .i64 (((i + j) / 2 + 1 : Nat) : Int)), (10, .i .i64 (j : Int))], [], 0⟩ (And.intro (Le.mk ?_ trivial rfl rfl) (And.intro ⟨(i + j) / 2 + 1, j, by omega, hjn, ?_, hhi, rfl⟩ ?_))
      · refine ⟨rfl, rfl, rfl, rfl, congrArg (AV.i .i64) ?_, rfl, trivial⟩
        rw [hm, wrap_int (by omega) (by omega)]
        omega
      · intro k hk
        by_cases hk' : k = (i + j) / 2
        · rw [hk']; exact hlt
        · exact ltb_trans (hs k ((i + j) / 2) (by omega) (by omega)) hlt
      · show (((j : Int) - (((i + j) / 2 + 1 : Nat) : Int)).toNat) < ((j : Int) - (i : Int)).toNat
        omega
    · have hge : ltb (l.getD ((i + j) / 2) ob0).name name = false := by
        cases e : ltb (l.getD ((i + j) / 2) ob0).name name with
        | false => rfl
        | true => exact absurd ((cmp_lt _ _).2 e) (of_decide_eq_false hcc)
      refine Exists.intro ⟨[(0, oAV l), (1, .s name), (2, .fn (.func 39) [] []), (8, .i .i64 (l.length : Int)), (9, .i .i64 (i : Int)), (10, .i .i64 (((i + j) / 2 : Nat) : Int))], [], 0⟩ (And.intro (Le.mk ?_ trivial rfl rfl) (And.intro ⟨i, (i + j) / 2, hmi, by omega, hlo, ?_, rfl⟩ ?_))
      · exact ⟨rfl, rfl, rfl, rfl, rfl, congrArg (AV.i .i64) hm, trivial⟩
      · intro k hk hkl
        by_cases hk' : k = (i + j) / 2
        · rw [hk']; exact hge
        · cases e : ltb (l.getD k ob0).name name with
          | false => rfl
          | true =>
            have := ltb_trans (hs ((i + j) / 2) k (by omega) hkl) e
            rw [hge] at this
            cases this
      · show ((((i + j) / 2 : Nat) : Int) - (i : Int)).toNat < ((j : Int) - (i : Int)).toNat
        omega
  · -- found the place
    have hij' : i = j := by have := of_decide_eq_false hc; omega
    subst hij'
    have hat : At l name i := ⟨hjn, hlo, hhi⟩
    refine And.intro (fun hcc => ?_) (fun hcc => ?_)
    · have hil : i < l.length := by have := of_decide_eq_true hcc; omega
      refine Exists.intro i ?_
      refine And.intro rfl ?_
      refine And.intro hil ?_
      refine XCall.lenv (find39 (l.getD i ob0) name) rfl ?_
      refine And.intro rfl (And.intro (AVles.refl _) ?_)
      refine And.intro rfl (Exists.intro i (And.intro hat ?_))
      refine AVle.of_eq (congrArg AV.tup (congrArg (List.cons _) (congrArg (fun b => [AV.b b]) ?_)))
      have := cmp_eq0 (l.getD i ob0).name name
      show (Extern.BytealgCompare.cmp (l.getD i ob0).name name == 0) = _
      by_cases he : (l.getD i ob0).name = name
      · rw [this.2 he, decide_eq_true ⟨hil, he⟩]
        rfl
      · rw [decide_eq_false fun h => he h.2]
        exact beq_eq_false_iff_ne.2 fun h => he (this.1 h)
    · have hil : ¬ i < l.length := by have := of_decide_eq_false hcc; omega
      refine And.intro rfl (Exists.intro i (And.intro hat ?_))
      refine AVle.tup (AVles.cons (AVle.refl _) (AVles.cons ?_ AVles.nil))
      refine AVle.trans AVle.ff (AVle.of_eq (congrArg AV.b ?_))
      simp [hil]

theorem find27 (s : Sh) (name : ByteArray) (hs : Sorted s.objs) (hl : s.objs.length ≤ 1099511627776) : Pure Try.prog 27 [sAV s, .s name] (fun r => ∃ i, At s.objs name i ∧ r = .tup [.i .i64 (i : Int), .b (decide (i < s.objs.length ∧ (s.objs.getD i ob0).name = name))]) := by
  refine Pure.of (XCall.body is27 rfl ?_)
  refine XCall.len ?_
  refine Exists.intro _ (And.intro (search s.objs name hs hl) (And.intro rfl fun r hr => ?_))
  obtain ⟨i, hat, rfl⟩ := hr
  refine And.intro rfl ?_
  exact ⟨rfl, i, hat, rfl⟩
end Go.Proofs.T

namespace Go.Proofs.T
open Go Go.Hb

def Named (x : ByteArray) : Prop := 1 ≤ x.size ∧ x.size ≤ 100
instance (x : ByteArray) : Decidable (Named x) := by unfold Named; infer_instance

/-- Why an object may not be where it is; 0: it may. -/
def bad (l : List Ob) (i : Nat) : Int :=
  if ¬ Named (l.getD i ob0).name then 7
  else if 0 < i ∧ (l.getD (i - 1) ob0).name = (l.getD i ob0).name then 8
  else if 0 < i ∧ ltb (l.getD i ob0).name (l.getD (i - 1) ob0).name = true then 2
  else if 65536 < (l.getD i ob0).data.size ∨ 65536 < (l.getD i ob0).was.size then 6
  else if (l.getD i ob0).had = false ∧ (l.getD i ob0).was.size ≠ 0 then 3
  else 0
def chkAt (l : List Ob) : Nat → Nat → Int
  | 0, _ => 0
  | n + 1, i => if bad l i = 0 then chkAt l n (i + 1) else bad l i
def check (l : List Ob) : Int := chkAt l l.length 0

theorem chk_ret {l : List Ob} {i : Nat} {e : Int} (h : check l = chkAt l (l.length - i) i) (hi : i < l.length) (hb : bad l i = e) (he : e ≠ 0) : check l = e := by
  rw [h, show l.length - i = (l.length - (i + 1)) + 1 by omega, chkAt, if_neg (by rw [hb]; exact he), hb]
theorem chk_next {l : List Ob} {i : Nat} (h : check l = chkAt l (l.length - i) i) (hi : i < l.length) (hb : bad l i = 0) : check l = chkAt l (l.length - (i + 1)) (i + 1) := by
  rw [h, show l.length - i = (l.length - (i + 1)) + 1 by omega, chkAt, if_pos hb]

/-- What the questions asked of an object tell. -/
structure Facts (l : List Ob) (i : Nat) : Prop where
  named : Named (l.getD i ob0).name
  twice : ¬ (0 < i ∧ (l.getD (i - 1) ob0).name = (l.getD i ob0).name)
  less : ¬ (0 < i ∧ ltb (l.getD i ob0).name (l.getD (i - 1) ob0).name = true)
  big : ¬ (65536 < (l.getD i ob0).data.size ∨ 65536 < (l.getD i ob0).was.size)
  form : ¬ ((l.getD i ob0).had = false ∧ (l.getD i ob0).was.size ≠ 0)
theorem Facts.bad {l : List Ob} {i : Nat} (h : Facts l i) : bad l i = 0 := by
  unfold T.bad
  rw [if_neg (fun hn => hn h.named), if_neg h.twice, if_neg h.less, if_neg h.big, if_neg h.form]

theorem bad_named {l : List Ob} {i : Nat} (h : ¬ Named (l.getD i ob0).name) : bad l i = 7 := by unfold bad; rw [if_pos h]
theorem bad_twice {l : List Ob} {i : Nat} (h1 : Named (l.getD i ob0).name) (h : 0 < i ∧ (l.getD (i - 1) ob0).name = (l.getD i ob0).name) : bad l i = 8 := by
  unfold bad; rw [if_neg (fun hn => hn h1), if_pos h]
theorem bad_less {l : List Ob} {i : Nat} (h1 : Named (l.getD i ob0).name) (h2 : ¬ (0 < i ∧ (l.getD (i - 1) ob0).name = (l.getD i ob0).name)) (h : 0 < i ∧ ltb (l.getD i ob0).name (l.getD (i - 1) ob0).name = true) : bad l i = 2 := by
  unfold bad; rw [if_neg (fun hn => hn h1), if_neg h2, if_pos h]
theorem bad_big {l : List Ob} {i : Nat} (h1 : Named (l.getD i ob0).name) (h2 : ¬ (0 < i ∧ (l.getD (i - 1) ob0).name = (l.getD i ob0).name)) (h3 : ¬ (0 < i ∧ ltb (l.getD i ob0).name (l.getD (i - 1) ob0).name = true))
    (h : 65536 < (l.getD i ob0).data.size ∨ 65536 < (l.getD i ob0).was.size) : bad l i = 6 := by
  unfold bad; rw [if_neg (fun hn => hn h1), if_neg h2, if_neg h3, if_pos h]
theorem bad_form {l : List Ob} {i : Nat} (h1 : Named (l.getD i ob0).name) (h2 : ¬ (0 < i ∧ (l.getD (i - 1) ob0).name = (l.getD i ob0).name)) (h3 : ¬ (0 < i ∧ ltb (l.getD i ob0).name (l.getD (i - 1) ob0).name = true))
    (h4 : ¬ (65536 < (l.getD i ob0).data.size ∨ 65536 < (l.getD i ob0).was.size)) (h : (l.getD i ob0).had = false ∧ (l.getD i ob0).was.size ≠ 0) : bad l i = 3 := by
  unfold bad; rw [if_neg (fun hn => hn h1), if_neg h2, if_neg h3, if_neg h4, if_pos h]

theorem ba_empty {a : ByteArray} : (a.toList == (⟨#[]⟩ : ByteArray).toList) = decide (a.size = 0) := by
  rw [beq_iff]
  by_cases h : a.size = 0
  · have : a = ⟨#[]⟩ := by
      apply ByteArray.ext
      apply Array.eq_empty_of_size_eq_zero
      exact h
    rw [decide_eq_true this, decide_eq_true h]
  · have : a ≠ ⟨#[]⟩ := fun e => h (by rw [e]; rfl)
    rw [decide_eq_false this, decide_eq_false h]
theorem gtr_ltb (a b : ByteArray) : (!(Op.bytesLess a.toList b.toList || a.toList == b.toList)) = ltb b a := by
  rw [less_ltb, beq_iff]
  rcases ltb_tri a b with h | h | h
  · rw [h, ltb_asymm h]; rfl
  · subst h; rw [ltb_irrefl]; simp
  · rw [h, ltb_asymm h, decide_eq_false (fun e => ltb_ne h e.symm)]; rfl

/-- The loop's standing. -/
def stC (s : Sh) (i : Nat) : St := ⟨[(1, .p 0 0), (6, oAV s.objs), (7, .i .i64 (s.objs.length : Int)), (8, .i .i64 (i : Int))], [(0, .lit [oAV s.objs, fAV s.fates])], 1⟩

theorem check17 (s : Sh) (hl : s.objs.length ≤ 1099511627776) : Pure Try.prog 17 [sAV s] (fun r => r = .i .i64 (check s.objs)) := by
  refine Pure.of (XCall.body is17 rfl ?_)
  refine Exists.intro (fun σ => ∃ i : Nat, i ≤ s.objs.length ∧ check s.objs = chkAt s.objs (s.objs.length - i) i ∧ σ = stC s i) ?_
  refine Exists.intro (fun σ => ((s.objs.length : Int) - num 8 σ).toNat) ?_
  refine And.intro ⟨stC s 0, Le.mk ⟨rfl, rfl, rfl, rfl, trivial⟩ ⟨rfl, trivial⟩ rfl rfl, 0, Nat.zero_le _, rfl, rfl⟩ ?_
  rintro σ' ⟨i, hi, hci, rfl⟩
  refine And.intro (fun hc => ?_) (fun hc => ?_)
  · have hil : i < s.objs.length := by have := of_decide_eq_true hc; omega
    refine Exists.intro i ?_
    refine And.intro rfl ?_
    refine And.intro hil ?_
    refine XCall.lenv (named_spec (s.objs.getD i ob0).name) rfl ?_
    refine And.intro rfl (And.intro (AVles.refl _) ?_)
    refine And.intro (fun hn => ?_) (fun hn => ?_)
    · have hnn : ¬ Named (s.objs.getD i ob0).name := fun hN => by
        rw [decide_eq_true (p := 1 ≤ (s.objs.getD i ob0).name.size ∧ (s.objs.getD i ob0).name.size ≤ 100) hN] at hn
        cases hn
      exact ⟨rfl, congrArg (AV.i .i64) (chk_ret hci hil (bad_named hnn) (by decide)).symm⟩
    have hN : Named (s.objs.getD i ob0).name := by
      cases h1 : decide (1 ≤ (s.objs.getD i ob0).name.size ∧ (s.objs.getD i ob0).name.size ≤ 100) with
      | true => exact of_decide_eq_true h1
      | false => rw [h1] at hn; cases hn
    refine And.intro (fun h1 => ?A) (fun h1 => ?B)
    case' A =>
      have h0 : 0 < i := by have := of_decide_eq_true h1; omega
      refine Exists.intro (i - 1) ?_
      refine And.intro (show IntKind.i64.wrap ((i : Int) - 1) = ((i - 1 : Nat) : Int) by rw [wrap_int (by omega) (by omega)]; omega) ?_
      refine And.intro (show i - 1 < s.objs.length by omega) ?_
      refine And.intro (fun h2 => ?_) (fun h2 => ?_)
      · rw [beq_iff] at h2
        exact ⟨rfl, congrArg (AV.i .i64) (chk_ret hci hil (bad_twice hN ⟨h0, of_decide_eq_true h2⟩) (by decide)).symm⟩
      rw [beq_iff] at h2
      have hT : ¬ (0 < i ∧ (s.objs.getD (i - 1) ob0).name = (s.objs.getD i ob0).name) := fun h => of_decide_eq_false h2 h.2
      refine And.intro (fun h3 => ?_) (fun h3 => absurd (of_decide_eq_true h1) (of_decide_eq_false h3))
      refine Exists.intro (i - 1) ?_
      refine And.intro (show IntKind.i64.wrap ((i : Int) - 1) = ((i - 1 : Nat) : Int) by rw [wrap_int (by omega) (by omega)]; omega) ?_
      refine And.intro (show i - 1 < s.objs.length by omega) ?_
      refine And.intro (fun h4 => ?_) (fun h4 => ?_)
      · rw [gtr_ltb] at h4
        exact ⟨rfl, congrArg (AV.i .i64) (chk_ret hci hil (bad_less hN hT ⟨h0, h4⟩) (by decide)).symm⟩
      rw [gtr_ltb] at h4
      have hL : ¬ (0 < i ∧ ltb (s.objs.getD i ob0).name (s.objs.getD (i - 1) ob0).name = true) := fun h => by rw [h4] at h; cases h.2
    case' B =>
      have h0 : ¬ 0 < i := by have := of_decide_eq_false h1; omega
      have hT : ¬ (0 < i ∧ (s.objs.getD (i - 1) ob0).name = (s.objs.getD i ob0).name) := fun h => h0 h.1
      have hL : ¬ (0 < i ∧ ltb (s.objs.getD i ob0).name (s.objs.getD (i - 1) ob0).name = true) := fun h => h0 h.1
      refine And.intro (fun h3 => absurd (of_decide_eq_true h3) (of_decide_eq_false h1)) (fun h3 => ?_)
    all_goals
      refine And.intro (fun h5 => ?_) (fun h5 => ?_)
      · exact ⟨rfl, congrArg (AV.i .i64) (chk_ret hci hil (bad_big hN hT hL (.inl (by have := of_decide_eq_true h5; omega))) (by decide)).symm⟩
      refine And.intro (fun h6 => ?_) (fun h6 => ?_)
      · exact ⟨rfl, congrArg (AV.i .i64) (chk_ret hci hil (bad_big hN hT hL (.inr (by have := of_decide_eq_true h6; omega))) (by decide)).symm⟩
      have hB : ¬ (65536 < (s.objs.getD i ob0).data.size ∨ 65536 < (s.objs.getD i ob0).was.size) := by
        have := of_decide_eq_false h5
        have := of_decide_eq_false h6
        omega
      refine And.intro (fun h7 => ?_) (fun h7 => ?_)
      · have hh : (s.objs.getD i ob0).had = false := by
          cases e : (s.objs.getD i ob0).had with
          | false => rfl
          | true => rw [e] at h7; cases h7
        refine And.intro (fun h8 => ?_) (fun h8 => ?_)
        · rw [ba_empty] at h8
          have hw : (s.objs.getD i ob0).was.size ≠ 0 := by
            cases e : decide ((s.objs.getD i ob0).was.size = 0) with
            | true => rw [e] at h8; cases h8
            | false => exact of_decide_eq_false e
          exact ⟨rfl, congrArg (AV.i .i64) (chk_ret hci hil (bad_form hN hT hL hB ⟨hh, hw⟩) (by decide)).symm⟩
        · rw [ba_empty] at h8
          have hw : (s.objs.getD i ob0).was.size = 0 := by
            cases e : decide ((s.objs.getD i ob0).was.size = 0) with
            | true => exact of_decide_eq_true e
            | false => rw [e] at h8; cases h8
          have hb : bad s.objs i = 0 := Facts.bad ⟨hN, hT, hL, hB, fun h => h.2 hw⟩
          refine Exists.intro (stC s (i + 1)) (And.intro (Le.mk ⟨rfl, rfl, rfl, congrArg (AV.i .i64) (show IntKind.i64.wrap ((i : Int) + 1) = ((i + 1 : Nat) : Int) by rw [wrap_int (by omega) (by omega)]; omega), trivial⟩ ⟨rfl, trivial⟩ rfl rfl) (And.intro ⟨i + 1, hil, chk_next hci hil hb, rfl⟩ ?_))
          show (((s.objs.length : Int) - ((i + 1 : Nat) : Int)).toNat) < ((s.objs.length : Int) - (i : Int)).toNat
          omega
      · have hh : (s.objs.getD i ob0).had = true := by
          cases e : (s.objs.getD i ob0).had with
          | true => rfl
          | false => rw [e] at h7; cases h7
        have hb : bad s.objs i = 0 := Facts.bad ⟨hN, hT, hL, hB, fun h => by rw [hh] at h; cases h.1⟩
        refine Exists.intro (stC s (i + 1)) (And.intro (Le.mk ⟨rfl, rfl, rfl, congrArg (AV.i .i64) (show IntKind.i64.wrap ((i : Int) + 1) = ((i + 1 : Nat) : Int) by rw [wrap_int (by omega) (by omega)]; omega), trivial⟩ ⟨rfl, trivial⟩ rfl rfl) (And.intro ⟨i + 1, hil, chk_next hci hil hb, rfl⟩ ?_))
        show (((s.objs.length : Int) - ((i + 1 : Nat) : Int)).toNat) < ((s.objs.length : Int) - (i : Int)).toNat
        omega
  · -- all of them may be
    have hie : i = s.objs.length := by have := of_decide_eq_false hc; omega
    have hz : check s.objs = 0 := by rw [hci, hie, Nat.sub_self]; rfl
    exact ⟨rfl, congrArg (AV.i .i64) hz.symm⟩
end Go.Proofs.T

namespace Go.Proofs.T
open Go Go.Hb

theorem name_spec (x : ByteArray) : Pure Try.prog 10 [.s x] (fun r => r = .b (decide (1 ≤ x.size ∧ x.size ≤ 100))) := by
  refine Pure.weak (Post := fun r => AVle r (.b (decide (1 ≤ x.size ∧ x.size ≤ 100)))) (Pure.of (XCall.body is10 rfl ?_)) fun r h => ⟨_, rfl, h⟩
  refine And.intro (fun h => ?_) (fun h => ?_)
  · refine ⟨rfl, ?_⟩
    exact AVle.of_eq (congrArg AV.b (decide_eq_decide.2 (by have := of_decide_eq_true h; omega)))
  · refine ⟨rfl, ?_⟩
    exact AVle.trans AVle.ff (AVle.of_eq (congrArg AV.b (decide_eq_false (by have := of_decide_eq_false h; omega)).symm))

theorem check9 (s : Sh) (hl : s.objs.length ≤ 1099511627776) : Pure Try.prog 9 [sAV s] (fun r => r = .i .i64 (check s.objs)) := by
  refine Pure.of (XCall.body is9 rfl ?_)
  refine Exists.intro (fun σ => ∃ i : Nat, i ≤ s.objs.length ∧ check s.objs = chkAt s.objs (s.objs.length - i) i ∧ σ = stC s i) ?_
  refine Exists.intro (fun σ => ((s.objs.length : Int) - num 8 σ).toNat) ?_
  refine And.intro ⟨stC s 0, Le.mk ⟨rfl, rfl, rfl, rfl, trivial⟩ ⟨rfl, trivial⟩ rfl rfl, 0, Nat.zero_le _, rfl, rfl⟩ ?_
  rintro σ' ⟨i, hi, hci, rfl⟩
  refine And.intro (fun hc => ?_) (fun hc => ?_)
  · have hil : i < s.objs.length := by have := of_decide_eq_true hc; omega
    refine Exists.intro i ?_
    refine And.intro rfl ?_
    refine And.intro hil ?_
    refine XCall.lenv (name_spec (s.objs.getD i ob0).name) rfl ?_
    refine And.intro rfl (And.intro (AVles.refl _) ?_)
    refine And.intro (fun hn => ?_) (fun hn => ?_)
    · have hnn : ¬ Named (s.objs.getD i ob0).name := fun hN => by
        rw [decide_eq_true (p := 1 ≤ (s.objs.getD i ob0).name.size ∧ (s.objs.getD i ob0).name.size ≤ 100) hN] at hn
        cases hn
      exact ⟨rfl, congrArg (AV.i .i64) (chk_ret hci hil (bad_named hnn) (by decide)).symm⟩
    have hN : Named (s.objs.getD i ob0).name := by
      cases h1 : decide (1 ≤ (s.objs.getD i ob0).name.size ∧ (s.objs.getD i ob0).name.size ≤ 100) with
      | true => exact of_decide_eq_true h1
      | false => rw [h1] at hn; cases hn
    refine And.intro (fun h1 => ?A) (fun h1 => ?B)
    case' A =>
      have h0 : 0 < i := by have := of_decide_eq_true h1; omega
      refine Exists.intro (i - 1) ?_
      refine And.intro (show IntKind.i64.wrap ((i : Int) - 1) = ((i - 1 : Nat) : Int) by rw [wrap_int (by omega) (by omega)]; omega) ?_
      refine And.intro (show i - 1 < s.objs.length by omega) ?_
      refine And.intro (fun h2 => ?_) (fun h2 => ?_)
      · rw [beq_iff] at h2
        exact ⟨rfl, congrArg (AV.i .i64) (chk_ret hci hil (bad_twice hN ⟨h0, (of_decide_eq_true h2).symm⟩) (by decide)).symm⟩
      rw [beq_iff] at h2
      have hT : ¬ (0 < i ∧ (s.objs.getD (i - 1) ob0).name = (s.objs.getD i ob0).name) := fun h => of_decide_eq_false h2 h.2.symm
      refine And.intro (fun h3 => ?_) (fun h3 => absurd (of_decide_eq_true h1) (of_decide_eq_false h3))
      refine Exists.intro (i - 1) ?_
      refine And.intro (show IntKind.i64.wrap ((i : Int) - 1) = ((i - 1 : Nat) : Int) by rw [wrap_int (by omega) (by omega)]; omega) ?_
      refine And.intro (show i - 1 < s.objs.length by omega) ?_
      refine And.intro (fun h4 => ?_) (fun h4 => ?_)
      · rw [less_ltb] at h4
        exact ⟨rfl, congrArg (AV.i .i64) (chk_ret hci hil (bad_less hN hT ⟨h0, h4⟩) (by decide)).symm⟩
      rw [less_ltb] at h4
      have hL : ¬ (0 < i ∧ ltb (s.objs.getD i ob0).name (s.objs.getD (i - 1) ob0).name = true) := fun h => by rw [h4] at h; cases h.2
    case' B =>
      have h0 : ¬ 0 < i := by have := of_decide_eq_false h1; omega
      have hT : ¬ (0 < i ∧ (s.objs.getD (i - 1) ob0).name = (s.objs.getD i ob0).name) := fun h => h0 h.1
      have hL : ¬ (0 < i ∧ ltb (s.objs.getD i ob0).name (s.objs.getD (i - 1) ob0).name = true) := fun h => h0 h.1
      refine And.intro (fun h3 => absurd (of_decide_eq_true h3) (of_decide_eq_false h1)) (fun h3 => ?_)
    all_goals
      refine And.intro (fun h5 => ?_) (fun h5 => ?_)
      · exact ⟨rfl, congrArg (AV.i .i64) (chk_ret hci hil (bad_big hN hT hL (.inl (by have := of_decide_eq_true h5; omega))) (by decide)).symm⟩
      refine And.intro (fun h6 => ?_) (fun h6 => ?_)
      · exact ⟨rfl, congrArg (AV.i .i64) (chk_ret hci hil (bad_big hN hT hL (.inr (by have := of_decide_eq_true h6; omega))) (by decide)).symm⟩
      have hB : ¬ (65536 < (s.objs.getD i ob0).data.size ∨ 65536 < (s.objs.getD i ob0).was.size) := by
        have := of_decide_eq_false h5
        have := of_decide_eq_false h6
        omega
      refine And.intro (fun h7 => ?_) (fun h7 => ?_)
      · have hh : (s.objs.getD i ob0).had = false := by
          cases e : (s.objs.getD i ob0).had with
          | false => rfl
          | true => rw [e] at h7; cases h7
        refine And.intro (fun h8 => ?_) (fun h8 => ?_)
        · rw [ba_empty] at h8
          have hw : (s.objs.getD i ob0).was.size ≠ 0 := by
            cases e : decide ((s.objs.getD i ob0).was.size = 0) with
            | true => rw [e] at h8; cases h8
            | false => exact of_decide_eq_false e
          exact ⟨rfl, congrArg (AV.i .i64) (chk_ret hci hil (bad_form hN hT hL hB ⟨hh, hw⟩) (by decide)).symm⟩
        · rw [ba_empty] at h8
          have hw : (s.objs.getD i ob0).was.size = 0 := by
            cases e : decide ((s.objs.getD i ob0).was.size = 0) with
            | true => exact of_decide_eq_true e
            | false => rw [e] at h8; cases h8
          have hb : bad s.objs i = 0 := Facts.bad ⟨hN, hT, hL, hB, fun h => h.2 hw⟩
          refine Exists.intro (stC s (i + 1)) (And.intro (Le.mk ⟨rfl, rfl, rfl, congrArg (AV.i .i64) (show IntKind.i64.wrap ((i : Int) + 1) = ((i + 1 : Nat) : Int) by rw [wrap_int (by omega) (by omega)]; omega), trivial⟩ ⟨rfl, trivial⟩ rfl rfl) (And.intro ⟨i + 1, hil, chk_next hci hil hb, rfl⟩ ?_))
          show (((s.objs.length : Int) - ((i + 1 : Nat) : Int)).toNat) < ((s.objs.length : Int) - (i : Int)).toNat
          omega
      · have hh : (s.objs.getD i ob0).had = true := by
          cases e : (s.objs.getD i ob0).had with
          | true => rfl
          | false => rw [e] at h7; cases h7
        have hb : bad s.objs i = 0 := Facts.bad ⟨hN, hT, hL, hB, fun h => by rw [hh] at h; cases h.1⟩
        refine Exists.intro (stC s (i + 1)) (And.intro (Le.mk ⟨rfl, rfl, rfl, congrArg (AV.i .i64) (show IntKind.i64.wrap ((i : Int) + 1) = ((i + 1 : Nat) : Int) by rw [wrap_int (by omega) (by omega)]; omega), trivial⟩ ⟨rfl, trivial⟩ rfl rfl) (And.intro ⟨i + 1, hil, chk_next hci hil hb, rfl⟩ ?_))
        show (((s.objs.length : Int) - ((i + 1 : Nat) : Int)).toNat) < ((s.objs.length : Int) - (i : Int)).toNat
        omega
  · -- all of them may be
    have hie : i = s.objs.length := by have := of_decide_eq_false hc; omega
    have hz : check s.objs = 0 := by rw [hci, hie, Nat.sub_self]; rfl
    exact ⟨rfl, congrArg (AV.i .i64) hz.symm⟩

end Go.Proofs.T

namespace Go.Proofs.T
open Go Go.Hb

def Small (s : Sh) : Prop := s.objs.length ≤ 1099511627776 ∧ s.fates.length ≤ 1099511627776

theorem same24 (s : Sh) (hl : Small s) : Pure Try.prog 24 [sAV s] (fun r => r = sAV s) := by
  refine Pure.weak (Post := fun r => AVle r (sAV s)) (Pure.of (XCall.body is24 rfl ?_)) fun r h => ⟨_, rfl, h⟩
  refine XCall.frame0 (cloneO hl.1) rfl rfl ?_
  refine And.intro rfl ?_
  refine XCall.frame0 (cloneF hl.2) rfl rfl ?_
  refine And.intro (Nat.le_of_eq (Nat.zero_add _)) ?_
  refine And.intro (Nat.le_of_eq (Nat.zero_add _)) ?_
  refine And.intro rfl ?_
  exact AVle.agg (AVles.cons AVle.fs0 (AVles.cons AVle.fs0 AVles.nil))

/-- The next fate, and the fates behind it. -/
def fateOf (s : Sh) : Int := s.fates.headD 0

/-- A shelf's copy without its next fate: its objects are the caller's own. -/
theorem next26 (s : Sh) (hl : Small s) : XCall Try.prog 26 [sAV s] [] 0 (Gives (.tup [.agg [.sl 3 4 0 s.objs.length, fAV s.fates.tail], .i .i64 (fateOf s)]) [(3, .rows s.objs.length 4 (cellO s.objs))] 7) := by
  refine XCall.weak1 ⟨rfl, rfl, rfl⟩ (XCall.body is26 rfl ?_)
  refine XCall.frame0 (cloneO hl.1) rfl rfl ?_
  dsimp only [St.put, rn, rns, rid, rnH, rnB, dead, AV.cells, setAt, enumEnv, List.length_nil, List.length_cons, List.getElem?_nil, List.getElem?_cons_zero, List.getElem?_cons_succ, Nat.reduceAdd, Nat.reduceSub, Nat.add_zero]
  refine And.intro (fun hc => ?_) (fun hc => ?_)
  · have h0 : s.fates = [] := by
      have h1 : (s.fates.length : Int) = 0 := eq_of_beq hc
      exact List.eq_nil_of_length_eq_zero (by omega)
    refine Lev.trans (Lev.one (id := 3) (k := .rows s.objs.length 4 (cellO s.objs)) rfl (BlkLe.refl _ rfl)) ?_
    refine Lev.trans (Lev.raise (show 5 ≤ 7 by omega)) (Lev.of ?_)
    refine AVle.tup (AVles.cons (AVle.agg (AVles.cons (AVle.refl _) (AVles.cons ?_ AVles.nil))) (AVles.cons (AVle.of_eq ?_) AVles.nil))
    · rw [h0]
      exact AVle.nils 1 _
    · unfold fateOf; rw [h0]; rfl
  · have h0 : 0 < s.fates.length := by
      have h1 : ¬ (s.fates.length : Int) = 0 := fun e => by rw [e] at hc; cases hc
      omega
    refine Exists.intro 1 ?_
    refine And.intro rfl ?_
    refine And.intro h0 ?_
    have hlen : s.fates.tail.length = s.fates.length - 1 := by simp
    have hle : AVle (.fs (s.fates.length - 1) 1 fun i j => cellF s.fates (1 + i) j) (fAV s.fates.tail) := by
      refine AVle.fs' hlen.symm fun i j hi hj => ?_
      cases hf : s.fates with
      | nil => rw [hf] at h0; cases h0
      | cons f r => simp [cellF, Nat.add_comm 1 i]
    refine XCall.wargs (AVles.cons hle AVles.nil) ?_
    refine XCall.frame0 (cloneF (l := s.fates.tail) (by have := hl.2; omega)) rfl rfl ?_
    dsimp only [St.put, rn, rns, rid, rnH, rnB, dead, AV.cells, setAt, enumEnv, List.length_nil, List.length_cons, List.getElem?_nil, List.getElem?_cons_zero, List.getElem?_cons_succ, Nat.reduceAdd, Nat.reduceSub, Nat.add_zero]
    refine Exists.intro 0 ?_
    refine And.intro rfl ?_
    refine And.intro h0 ?_
    refine And.intro rfl ?_
    dsimp only [St.put, rn, rns, rid, rnH, rnB, dead, AV.cells, setAt, enumEnv, List.length_nil, List.length_cons, List.getElem?_nil, List.getElem?_cons_zero, List.getElem?_cons_succ, Nat.reduceAdd, Nat.reduceSub, Nat.add_zero]
    refine Lev.fz2 ?_
    refine And.intro (Nat.le_of_eq (Nat.zero_add _)) ?_
    refine Lev.trans (Lev.one (id := 3) (k := .rows s.objs.length 4 (cellO s.objs)) rfl (BlkLe.refl _ rfl)) (Lev.of ?_)
    refine AVle.tup (AVles.cons (AVle.agg (AVles.cons (AVle.refl _) (AVles.cons AVle.fs0 AVles.nil))) (AVles.cons (AVle.of_eq ?_) AVles.nil))
    unfold fateOf
    cases hf : s.fates with
    | nil => rw [hf] at h0; cases h0
    | cons f r => rfl
end Go.Proofs.T

set_option maxRecDepth 100000
namespace Go.Proofs.T
open Go Go.Hb

/-- Bytes, the last bit of which is turned. -/
def flip (x : ByteArray) : ByteArray := if h : x.size = 0 then x else x.extract 0 (x.size - 1) ++ ⟨#[(x[x.size - 1]'(by omega)) ^^^ 1]⟩

theorem ba_nil {a : ByteArray} (h : a.size = 0) : a = ⟨#[]⟩ := by
  apply ByteArray.ext
  apply Array.eq_empty_of_size_eq_zero
  exact h

theorem bytesOf_size (n : Nat) (f : Nat → CV) : (bytesOf n f).size = n := by simp [bytesOf, ByteArray.size]

theorem bytesOf_one (f : Nat → CV) : bytesOf 1 f = ⟨#[match f 0 with | .i _ z => UInt8.ofNat z.toNat | _ => 0]⟩ := by
  unfold bytesOf
  apply ByteArray.ext
  apply Array.ext'
  simp only [Array.toList_map, Array.toList_range]
  rfl

theorem xor_fin : ∀ n : Fin 256, UInt8.ofNat (IntKind.u8.wrap ((BitVec.ofInt 8 ((n.val : Nat) : Int) ^^^ BitVec.ofInt 8 1).toNat : Int)).toNat = UInt8.ofNat n.val ^^^ 1 := by decide +kernel
theorem xor_one (b : UInt8) : UInt8.ofNat (IntKind.u8.wrap ((BitVec.ofInt IntKind.u8.bits (b.toNat : Int) ^^^ BitVec.ofInt IntKind.u8.bits 1).toNat : Int)).toNat = b ^^^ 1 := by
  have := xor_fin ⟨b.toNat, b.toNat_lt⟩
  rw [UInt8.ofNat_toNat] at this
  exact this

theorem flip28 (x : ByteArray) (hx : x.size ≤ 1099511627776) : Pure Try.prog 28 [.s x] (fun r => r = .s (flip x)) := by
  refine Pure.of (XCall.body is28 rfl ?_)
  refine And.intro (fun hc => ?_) (fun hc => ?_)
  · refine And.intro rfl ?_
    have h0 : x = ⟨#[]⟩ := by
      rw [beq_iff] at hc
      exact of_decide_eq_true hc
    subst h0
    rfl
  · have h0 : ¬ x.size = 0 := fun h => by
      rw [beq_iff, decide_eq_true (ba_nil h)] at hc
      cases hc
    have hw : IntKind.i64.wrap ((x.size : Int) - 1) = ((x.size - 1 : Nat) : Int) := by rw [wrap_int (by omega) (by omega)]; omega
    refine Exists.intro (x.size - 1) ?_
    refine And.intro hw ?_
    refine And.intro (Nat.sub_le _ _) ?_
    refine Exists.intro (x.size - 1) ?_
    refine And.intro hw ?_
    refine Exists.intro (by omega) ?_
    refine And.intro (fun i hi => by (obtain rfl : i = 0 := by omega); trivial) ?_
    refine And.intro ?_ ?_
    · rw [bytesOf_size]
      have : (x.extract 0 (x.size - 1)).size ≤ x.size := by simp [ByteArray.size_extract]
      omega
    refine And.intro rfl ?_
    refine congrArg AV.s ?_
    unfold flip
    rw [dif_neg h0]
    refine congrArg (x.extract 0 (x.size - 1) ++ ·) ?_
    rw [bytesOf_one]
    exact congrArg (fun q => (⟨#[q]⟩ : ByteArray)) (xor_one _)

theorem odd_fin : ∀ n : Fin 256, (decide ((n.val : Int).tmod 2 = 1) = true → UInt8.ofNat (IntKind.u8.wrap ((n.val : Int) - 1)).toNat = UInt8.ofNat n.val ^^^ 1) ∧ (decide ((n.val : Int).tmod 2 = 1) = false → UInt8.ofNat (IntKind.u8.wrap ((n.val : Int) + 1)).toNat = UInt8.ofNat n.val ^^^ 1) := by decide +kernel

theorem flip33 (x : ByteArray) (hx : x.size ≤ 1099511627776) : Pure Try.prog 33 [.s x] (fun r => r = .s (flip x)) := by
  refine Pure.of (XCall.body is33 rfl ?_)
  refine And.intro (fun hc => ?_) (fun hc => ?_)
  · refine And.intro rfl ?_
    have h0 : x = ⟨#[]⟩ := by
      rw [beq_iff] at hc
      exact of_decide_eq_true hc
    subst h0
    rfl
  · have h0 : ¬ x.size = 0 := fun h => by
      rw [beq_iff, decide_eq_true (ba_nil h)] at hc
      cases hc
    have hw : IntKind.i64.wrap ((x.size : Int) - 1) = ((x.size - 1 : Nat) : Int) := by rw [wrap_int (by omega) (by omega)]; omega
    refine Exists.intro (x.size - 1) ?_
    refine And.intro hw ?_
    refine Exists.intro (by omega) ?_
    refine And.intro (show (2 : Int) ≠ 0 by decide) ?_
    have fin := odd_fin ⟨(x[x.size - 1]'(by omega)).toNat, (x[x.size - 1]'(by omega)).toNat_lt⟩
    rw [UInt8.ofNat_toNat] at fin
    refine And.intro (fun hc => ?A) (fun hc => ?B)
    all_goals
      refine Exists.intro (x.size - 1) ?_
      refine And.intro hw ?_
      refine And.intro (Nat.sub_le _ _) ?_
      refine And.intro (fun i hi => by (obtain rfl : i = 0 := by omega); trivial) ?_
      refine And.intro ?_ ?_
      · rw [bytesOf_size]
        have : (x.extract 0 (x.size - 1)).size ≤ x.size := by simp [ByteArray.size_extract]
        omega
      refine And.intro rfl ?_
      refine congrArg AV.s ?_
      unfold flip
      rw [dif_neg h0]
      refine congrArg (x.extract 0 (x.size - 1) ++ ·) ?_
      rw [bytesOf_one]
    case A => exact congrArg (fun q => (⟨#[q]⟩ : ByteArray)) (fin.1 (decide_eq_true (eq_of_beq hc)))
    case B => exact congrArg (fun q => (⟨#[q]⟩ : ByteArray)) (fin.2 (decide_eq_false (fun h => by rw [beq_iff_eq.2 h] at hc; cases hc)))
end Go.Proofs.T

namespace Go.Proofs.T
open Go Go.Hb

def ins (l : List Ob) (i : Nat) (x : Ob) : List Ob := l.take i ++ x :: l.drop i
theorem ins_len {l : List Ob} {i : Nat} (hi : i ≤ l.length) (x : Ob) : (ins l i x).length = l.length + 1 := by simp [ins]; omega
theorem ins_lo {l : List Ob} {i : Nat} (hi : i ≤ l.length) (x : Ob) {a : Nat} (ha : a < i) : (ins l i x).getD a ob0 = l.getD a ob0 := by
  unfold ins
  rw [List.getD_eq_getElem?_getD, List.getD_eq_getElem?_getD, List.getElem?_append_left (by simp; omega), List.getElem?_take, if_pos ha]
theorem ins_at {l : List Ob} {i : Nat} (hi : i ≤ l.length) (x : Ob) : (ins l i x).getD i ob0 = x := by
  unfold ins
  rw [List.getD_eq_getElem?_getD, List.getElem?_append_right (by simp; omega)]
  simp [Nat.min_eq_left hi]
theorem ins_hi {l : List Ob} {i : Nat} (hi : i ≤ l.length) (x : Ob) {a : Nat} (ha : i < a) : (ins l i x).getD a ob0 = l.getD (a - 1) ob0 := by
  unfold ins
  rw [List.getD_eq_getElem?_getD, List.getD_eq_getElem?_getD, List.getElem?_append_right (by simp; omega)]
  simp only [List.length_take, Nat.min_eq_left hi]
  rw [show a - i = (a - i - 1) + 1 by omega, List.getElem?_cons_succ, List.getElem?_drop]
  congr 2
  omega

/-- The object, as it lies on its own. -/
def xCells (x : Ob) : List AV := [.s x.name, .s x.data, .s x.was, .ff]
theorem xCell (x : Ob) (hx : x.had = false) : ∀ j, j < 4 → listCell 4 [.s x.name, .s x.data, .s x.was, .b false] 0 j = cellO [x] 0 j
  | 0, _ => rfl
  | 1, _ => rfl
  | 2, _ => rfl
  | 3, _ => congrArg CV.b hx.symm
  | n + 4, h => by omega

theorem ins_cells {l : List Ob} {i : Nat} (hi : i ≤ l.length) (x : Ob) {c : Nat → Nat → CV} (h1 : ∀ a j, a < i → j < 4 → c a j = cellO l a j) (h2 : ∀ j, j < 4 → c i j = cellO [x] 0 j) (h3 : ∀ a j, i < a → a < l.length + 1 → j < 4 → c a j = cellO l (a - 1) j) :
    ∀ a j, a < l.length + 1 → j < 4 → c a j = cellO (ins l i x) a j := by
  intro a j ha hj
  rcases Nat.lt_trichotomy a i with h | h | h
  · rw [h1 a j h hj]; unfold cellO; rw [ins_lo hi x h]
  · subst h; rw [h2 j hj]; unfold cellO; rw [ins_at hi x]; rfl
  · rw [h3 a j h ha hj]; unfold cellO; rw [ins_hi hi x h]

theorem insert29 (l : List Ob) (i : Nat) (x : Ob) (hx : x.had = false) (hi : i ≤ l.length) (hl : l.length ≤ 1099511627776) :
    XCall Try.prog 29 [.sl 0 4 0 l.length, .i .i64 (i : Int), .sa 1 4 0 1] [(0, .rows l.length 4 (cellO l)), (1, .lit (xCells x))] 2 (Gives (.sl 2 4 0 (l.length + 1)) [(2, .rows (l.length + 1) 4 (cellO (ins l i x)))] 3) := by
  refine XCall.weak1 ⟨rfl, rfl, rfl⟩ (XCall.room (fun c hc => XCall.body is29 rfl ?_) (fun h0 => XCall.body is29 rfl ?_))
  · refine Exists.intro i ?_
    refine And.intro rfl ?_
    refine And.intro hi ?_
    refine And.intro (fun hf => by cases hf) (fun _ => ?_)
    dsimp only [St.put, rn, rns, rid, rnH, rnB, dead, AV.cells, setAt, enumEnv, List.length_nil, List.length_cons, List.getElem?_nil, List.getElem?_cons_zero, List.getElem?_cons_succ, Nat.reduceAdd, Nat.reduceSub, Nat.add_zero]
    refine And.intro (fun he => ?_) (fun he => ?_)
    · have hie : i = l.length := by have := eq_of_beq he; omega
      refine And.intro (Nat.le_refl _) ?_
      refine And.intro (show (l.length + 1) * 56 ≤ 140737488355328 by omega) ?_
      have cells : ∀ a j, a < l.length + 1 → j < 4 → appCell l.length (cellO l) (listCell 4 [.s x.name, .s x.data, .s x.was, .b false]) a j = cellO (ins l i x) a j :=
        ins_cells hi x (fun a j h _ => appCell_old (by omega) j) (fun j hj => by rw [appCell_new (by omega), hie, Nat.sub_self]; exact xCell x hx j hj) (fun a j h h' _ => by omega)
      refine And.intro (fun hr => ?_) (fun hr => ?_)
      · refine Lev.trans (Lev.sk (Nat.le_refl _) rfl) ?_
        exact Lev.one (id := 2) rfl (BlkLe.rows (Nat.le_refl _) cells)
      · refine Lev.trans (Lev.raise (show 3 ≤ 3 by omega)) ?_
        exact Lev.one (id := 2) rfl (BlkLe.rows (Nat.le_refl _) cells)
    have hne : i < l.length := by
      have : ¬ (i : Int) = (l.length : Int) := fun e => by rw [e] at he; simp at he
      omega
    have hw1 : IntKind.i64.wrap ((l.length : Int) + 1) = ((l.length + 1 : Nat) : Int) := by rw [wrap_int (by omega) (by omega)]; omega
    have hw2 : IntKind.i64.wrap ((i : Int) + 1) = ((i + 1 : Nat) : Int) := by rw [wrap_int (by omega) (by omega)]; omega
    refine And.intro (fun hg => ?_) (fun hg => ?_)
    · -- it grows
      have hgc : c < l.length + 1 := by
        have h1 := of_decide_eq_true hg
        have h2 : IntKind.i64.wrap ((l.length : Int) + ((1 : Nat) : Int)) = ((l.length + 1 : Nat) : Int) := hw1
        rw [h2] at h1
        omega
      refine Exists.intro i ?_
      refine And.intro rfl ?_
      refine And.intro (show i ≤ c by omega) ?_
      refine Exists.intro (l.length + 1 - i) ?_
      refine And.intro (show IntKind.i64.wrap (IntKind.i64.wrap ((l.length : Int) + 1) - (i : Int)) = ((l.length + 1 - i : Nat) : Int) by rw [hw1, wrap_int (by omega) (by omega)]; omega) ?_
      refine And.intro (show (l.length + 1 - i) * 56 ≤ 140737488355328 by omega) ?_
      refine And.intro hi ?_
      refine And.intro (show (i + (l.length + 1 - i)) * 56 ≤ 140737488355328 by omega) ?_
      refine And.intro (fun hr => absurd hr (by omega)) (fun _ => ?_)
      dsimp only [St.put, rn, rns, rid, rnH, rnB, dead, AV.cells, setAt, enumEnv, List.length_nil, List.length_cons, List.getElem?_nil, List.getElem?_cons_zero, List.getElem?_cons_succ, Nat.reduceAdd, Nat.reduceSub, Nat.add_zero]
      refine Exists.intro i ?_
      refine And.intro rfl ?_
      refine And.intro (show i ≤ i + (l.length + 1 - i) by omega) ?_
      refine And.intro (show 0 + i ≤ i + (l.length + 1 - i) by omega) ?_
      dsimp only [St.put, rn, rns, rid, rnH, rnB, dead, AV.cells, setAt, enumEnv, List.length_nil, List.length_cons, List.getElem?_nil, List.getElem?_cons_zero, List.getElem?_cons_succ, Nat.reduceAdd, Nat.reduceSub, Nat.add_zero]
      refine Exists.intro (i + 1) ?_
      refine And.intro hw2 ?_
      refine And.intro (show i + 1 ≤ i + (l.length + 1 - i) by omega) ?_
      refine Exists.intro i ?_
      refine And.intro rfl ?_
      refine And.intro hi ?_
      refine And.intro ?_ ?_
      · show 0 + i + min (l.length - i) (i + (l.length + 1 - i) - (i + 1)) ≤ l.length
        omega
      refine And.intro ?_ ?_
      · show 0 + (i + 1) ≤ max (i + (l.length + 1 - i)) (0 + i + min 1 (i + (l.length + 1 - i) - i))
        omega
      refine Lev.trans (Lev.one (id := 2) (k := .rows (l.length + 1) 4 (cellO (ins l i x))) rfl (BlkLe.rows ?_ ?_)) (Lev.of (AVle.of_eq (congrArg (AV.sl 2 4 0) (show i - 0 + (l.length + 1 - i) = l.length + 1 by omega))))
      · simp only [avLen]
        omega
      · simp only [avLen]
        refine ins_cells hi x (fun a j h _ => ?_) (fun j hj => ?_) (fun a j h h' _ => ?_)
        · rw [cpCell_out (by omega), cpCell_out (by omega), appCell_old (by omega)]
        · rw [cpCell_out (by omega), cpCell_in (by omega) (by omega), show i - (0 + i) = 0 by omega]
          exact xCell x hx j hj
        · rw [cpCell_in (by omega) (by omega), show 0 + i + (a - (0 + (i + 1))) = a - 1 by omega]
    · -- there is room
      have hgc : l.length + 1 ≤ c := by
        have h1 := of_decide_eq_false hg
        have h2 : IntKind.i64.wrap ((l.length : Int) + ((1 : Nat) : Int)) = ((l.length + 1 : Nat) : Int) := hw1
        rw [h2] at h1
        omega
      refine Exists.intro (l.length + 1) ?_
      refine And.intro hw1 ?_
      refine And.intro hgc ?_
      dsimp only [St.put, rn, rns, rid, rnH, rnB, dead, AV.cells, setAt, enumEnv, List.length_nil, List.length_cons, List.getElem?_nil, List.getElem?_cons_zero, List.getElem?_cons_succ, Nat.reduceAdd, Nat.reduceSub, Nat.add_zero]
      refine Exists.intro (i + 1) ?_
      refine And.intro hw2 ?_
      refine And.intro (show i + 1 ≤ l.length + 1 - 0 by omega) ?_
      dsimp only [St.put, rn, rns, rid, rnH, rnB, dead, AV.cells, setAt, enumEnv, List.length_nil, List.length_cons, List.getElem?_nil, List.getElem?_cons_zero, List.getElem?_cons_succ, Nat.reduceAdd, Nat.reduceSub, Nat.add_zero]
      refine XCall.overlaps (fn := Try.f41) Try.func41 (by decide) rfl (by kernel_rfl) (by kernel_rfl) (tS := 22) (tR := 4) (el := 50) (by kernel_rfl) (by kernel_rfl) (by decide) rfl rfl rfl ?_ ?_ ?_ ?_
      · omega
      · exact Nat.zero_le _
      · decide
      dsimp only [St.put, rn, rns, rid, rnH, rnB, dead, AV.cells, setAt, enumEnv, List.length_nil, List.length_cons, List.getElem?_nil, List.getElem?_cons_zero, List.getElem?_cons_succ, Nat.reduceAdd, Nat.reduceSub, Nat.add_zero]
      refine Exists.intro (i + 1) ?_
      refine And.intro hw2 ?_
      refine And.intro (show i + 1 ≤ l.length + 1 - 0 by omega) ?_
      refine Exists.intro i ?_
      refine And.intro rfl ?_
      refine And.intro (show i ≤ l.length + 1 - 0 by omega) ?_
      refine And.intro ?_ ?_
      · show 0 + i + min (l.length + 1 - 0 - i) (l.length + 1 - 0 - (i + 1)) ≤ l.length
        omega
      refine And.intro ?_ ?_
      · show 0 + (i + 1) ≤ l.length
        omega
      dsimp only [St.put, rn, rns, rid, rnH, rnB, dead, AV.cells, setAt, enumEnv, List.length_nil, List.length_cons, List.getElem?_nil, List.getElem?_cons_zero, List.getElem?_cons_succ, Nat.reduceAdd, Nat.reduceSub, Nat.add_zero]
      refine Exists.intro i ?_
      refine And.intro rfl ?_
      refine And.intro (show i ≤ l.length + 1 - 0 by omega) ?_
      refine And.intro ?_ ?_
      · exact Nat.le_trans (show 0 + i ≤ l.length by omega) (Nat.le_max_left _ _)
      dsimp only [St.put, rn, rns, rid, rnH, rnB, dead, AV.cells, setAt, enumEnv, List.length_nil, List.length_cons, List.getElem?_nil, List.getElem?_cons_zero, List.getElem?_cons_succ, Nat.reduceAdd, Nat.reduceSub, Nat.add_zero]
      have hm : min (min (l.length + 1 - 0 - i) (avLen (AV.sk 0 4 (0 + (i + 1)) (l.length + 1 - 0 - (i + 1)) (c - 0 - (i + 1))))) (l.length + 1 - 0 - (i + 1)) = l.length - i := by
        simp only [avLen]
        omega
      have hm2 : min 1 (l.length + 1 - 0 - i) = 1 := by omega
      refine Lev.trans (Lev.sk (m := max (max l.length (0 + (i + 1) + min (min (l.length + 1 - 0 - i) (avLen (AV.sk 0 4 (0 + (i + 1)) (l.length + 1 - 0 - (i + 1)) (c - 0 - (i + 1))))) (l.length + 1 - 0 - (i + 1)))) (0 + i + min 1 (l.length + 1 - 0 - i))) (by rw [hm, hm2]; omega) rfl) ?_
      refine Lev.trans (Lev.one (id := 2) (k := .rows (l.length + 1) 4 (cellO (ins l i x))) rfl (BlkLe.rows (by omega) ?_)) (Lev.of (AVle.of_eq rfl))
      rw [hm, hm2]
      refine ins_cells hi x (fun a j h _ => ?_) (fun j hj => ?_) (fun a j h h' _ => ?_)
      · rw [cpCell_out (by omega), cpCell_out (by omega)]
      · rw [cpCell_in (by omega) (by omega), show i - (0 + i) = 0 by omega]
        exact xCell x hx j hj
      · rw [cpCell_out (by omega), cpCell_in (by omega) (by omega), show 0 + i + (a - (0 + (i + 1))) = a - 1 by omega]
  · -- of none
    have hi0 : i = 0 := by omega
    subst hi0
    refine Exists.intro 0 ?_
    refine And.intro rfl ?_
    refine And.intro (Nat.le_refl _) ?_
    refine And.intro (fun hf => by cases hf) (fun _ => ?_)
    refine And.intro (fun he => ?_) (fun he => by cases he)
    refine And.intro (show (0 + 1) * 56 ≤ 140737488355328 by decide) ?_
    have hl0 : l = [] := List.eq_nil_of_length_eq_zero h0
    subst hl0
    refine Lev.one (id := 2) rfl (BlkLe.rows (Nat.le_refl _) fun a j ha hj => ?_)
    have ha0 : a = 0 := by simp at ha; omega
    subst ha0
    rw [appCell_new (Nat.le_refl _)]
    exact xCell x hx j hj
end Go.Proofs.T

namespace Go.Proofs.T
open Go Go.Hb

def del (l : List Ob) (i : Nat) : List Ob := l.take i ++ l.drop (i + 1)
theorem del_len {l : List Ob} {i : Nat} (hi : i < l.length) : (del l i).length = l.length - 1 := by simp [del]; omega
theorem del_lo {l : List Ob} {i : Nat} (hi : i < l.length) {a : Nat} (ha : a < i) : (del l i).getD a ob0 = l.getD a ob0 := by
  unfold del
  rw [List.getD_eq_getElem?_getD, List.getD_eq_getElem?_getD, List.getElem?_append_left (by simp; omega), List.getElem?_take, if_pos ha]
theorem del_hi {l : List Ob} {i : Nat} (hi : i < l.length) {a : Nat} (ha : i ≤ a) : (del l i).getD a ob0 = l.getD (a + 1) ob0 := by
  unfold del
  rw [List.getD_eq_getElem?_getD, List.getD_eq_getElem?_getD, List.getElem?_append_right (by simp; omega)]
  simp only [List.length_take, Nat.min_eq_left (Nat.le_of_lt hi), List.getElem?_drop]
  congr 2
  omega

theorem delete31 (l : List Ob) (i : Nat) (hi : i < l.length) (hl : l.length ≤ 1099511627776) :
    XCall Try.prog 31 [.sl 0 4 0 l.length, .i .i64 (i : Int), .i .i64 ((i + 1 : Nat) : Int)] [(0, .rows l.length 4 (cellO l))] 1 (Gives (.sl 1 4 0 (l.length - 1)) [(1, .rows (l.length - 1) 4 (cellO (del l i)))] 2) := by
  refine XCall.weak1 ⟨rfl, rfl, rfl⟩ (XCall.room (fun c hc => XCall.body is31 rfl ?_) (fun h0 => absurd h0 (by omega)))
  refine Exists.intro l.length ?_
  refine And.intro rfl ?_
  refine And.intro hc ?_
  refine Exists.intro i ?_
  refine Exists.intro (i + 1) ?_
  refine And.intro rfl ?_
  refine And.intro rfl ?_
  refine And.intro (Nat.le_succ i) ?_
  refine And.intro hi ?_
  refine And.intro (fun he => absurd (eq_of_beq he) (by omega)) (fun _ => ?_)
  dsimp only [St.put, rn, rns, rid, rnH, rnB, dead, AV.cells, setAt, enumEnv, List.length_nil, List.length_cons, List.getElem?_nil, List.getElem?_cons_zero, List.getElem?_cons_succ, Nat.reduceAdd, Nat.reduceSub, Nat.add_zero]
  refine Exists.intro i ?_
  refine And.intro rfl ?_
  refine And.intro (show i ≤ c by omega) ?_
  refine Exists.intro (i + 1) ?_
  refine And.intro rfl ?_
  refine And.intro hi ?_
  refine And.intro (show 0 + (i + 1) + (l.length - (i + 1)) ≤ l.length by omega) ?_
  refine And.intro (show i - 0 ≤ l.length by omega) ?_
  refine And.intro (show (i - 0 + (l.length - (i + 1))) * 56 ≤ 140737488355328 by omega) ?_
  refine And.intro (fun hr => ?_) (fun hr => absurd hr (by omega))
  dsimp only [St.put, rn, rns, rid, rnH, rnB, dead, AV.cells, setAt, enumEnv, List.length_nil, List.length_cons, List.getElem?_nil, List.getElem?_cons_zero, List.getElem?_cons_succ, Nat.reduceAdd, Nat.reduceSub, Nat.add_zero]
  refine Exists.intro (i - 0 + (l.length - (i + 1))) ?_
  refine Exists.intro l.length ?_
  refine And.intro rfl ?_
  refine And.intro rfl ?_
  refine And.intro (show i - 0 + (l.length - (i + 1)) ≤ l.length by omega) ?_
  refine And.intro (show l.length ≤ c - 0 by omega) ?_
  dsimp only [St.put, rn, rns, rid, rnH, rnB, dead, AV.cells, setAt, enumEnv, List.length_nil, List.length_cons, List.getElem?_nil, List.getElem?_cons_zero, List.getElem?_cons_succ, Nat.reduceAdd, Nat.reduceSub, Nat.add_zero]
  refine Lev.trans (Lev.sk (m := i - 0 + (l.length - (i + 1))) (Nat.le_refl _) rfl) ?_
  refine Lev.trans (Lev.one (id := 1) (k := .rows (l.length - 1) 4 (cellO (del l i))) rfl (BlkLe.rows (by omega) ?_)) (Lev.of (AVle.of_eq (congrArg (AV.sl 1 4 0) (show i - 0 + (l.length - (i + 1)) = l.length - 1 by omega))))
  intro a j ha hj
  rw [cpCell_out (by omega)]
  rcases Nat.lt_or_ge a i with h | h
  · rw [appCell_old (by omega)]; unfold cellO; rw [del_lo hi h]
  · rw [appCell_new (by omega), show 0 + (i + 1) + (a - (i - 0)) = a + 1 by omega]; unfold cellO; rw [del_hi hi h]
end Go.Proofs.T
